/- Vi, part 22: what a piece of code does, from a state to a state; states may be forgotten and renamed between pieces. -/
import Derived.Test.YtbiifkfehfapkaaDoorVi21
namespace Go.Vi

/-- From a state to a state. -/
def Tri (P : Program) (E : Env) (c : Code) (s : St) (e : Ex) (s' : St) : Prop :=
  ∀ (w0 : World) (H0 : Hp) (β0 : Bt), Bor β0 → GOK P E H0 → ∀ (H : Hp) (β : Bt) (a : Act) (w : World) (Q : Exit → Act → World → Prop), Sim P E w0 H0 β0 H β s a w →
    (∀ H' β' a' w', Sim P E w0 H0 β0 H' β' s' a' w' → Q (exOf e) a' w') → c.wp P Q a w

/-- A state that says less. -/
def Weak (P : Program) (E : Env) (s s' : St) : Prop :=
  ∀ (w0 : World) (H0 : Hp) (β0 : Bt), Bor β0 → ∀ (H : Hp) (β : Bt) (a : Act) (w : World), Sim P E w0 H0 β0 H β s a w → ∃ β', Sim P E w0 H0 β0 H β' s' a w

section
variable {P : Program} {E : Env} {C : Oracle}

theorem Tri.ev (hmix : P.follows .mixedOrders = true) (hC : OkC P E C) {fuel : Nat} {c : Code} {s s' : St} {e : Ex} (h : evC P E C fuel c s = some (e, s')) : Tri P E c s e s' :=
  fun _ _ _ hB hG H β a w Q hs hQ => evC_sound hmix hC hB hG fuel c H β s s' e a w Q h hs hQ

theorem Weak.refl (s : St) : Weak P E s s := fun _ _ _ _ _ β _ _ hs => ⟨β, hs⟩
theorem Weak.trans {s t u : St} (h : Weak P E s t) (k : Weak P E t u) : Weak P E s u := fun w0 H0 β0 hB H β a w hs => by
  obtain ⟨β', h'⟩ := h w0 H0 β0 hB H β a w hs
  exact k w0 H0 β0 hB H β' a w h'

theorem Tri.pre {c : Code} {s s1 s' : St} {e : Ex} (h : Weak P E s s1) (k : Tri P E c s1 e s') : Tri P E c s e s' := fun w0 H0 β0 hB hG H β a w Q hs hQ => by
  obtain ⟨β', h'⟩ := h w0 H0 β0 hB H β a w hs
  exact k w0 H0 β0 hB hG H β' a w Q h' hQ

theorem Tri.post {c : Code} {s s1 s' : St} {e : Ex} (k : Tri P E c s e s1) (h : Weak P E s1 s') : Tri P E c s e s' := fun w0 H0 β0 hB hG H β a w Q hs hQ =>
  k w0 H0 β0 hB hG H β a w Q hs fun H' β' a' w' hs' => by
    obtain ⟨β2, h2⟩ := h w0 H0 β0 hB H' β' a' w' hs'
    exact hQ H' β2 a' w' h2

theorem Tri.skip (s : St) : Tri P E .skip s .normal s := fun _ _ _ _ _ _ _ _ _ _ hs hQ => wp_skip (hQ _ _ _ _ hs)

theorem Tri.seq {c d : Code} {s s1 s' : St} {e : Ex} (h : Tri P E c s .normal s1) (k : Tri P E d s1 e s') : Tri P E (.seq c d) s e s' := fun w0 H0 β0 hB hG H β a w Q hs hQ =>
  wp_seq (h w0 H0 β0 hB hG H β a w _ hs fun H' β' a' w' hs' => k w0 H0 β0 hB hG H' β' a' w' Q hs' hQ)

theorem Tri.seq_out {c d : Code} {s s' : St} {e : Ex} (h : Tri P E c s e s') (he : e ≠ .normal) : Tri P E (.seq c d) s e s' := fun w0 H0 β0 hB hG H β a w Q hs hQ =>
  wp_seq (h w0 H0 β0 hB hG H β a w _ hs fun H' β' a' w' hs' => by
    cases e with
    | normal => exact absurd rfl he
    | exit id => exact hQ _ _ _ _ hs'
    | ret => exact hQ _ _ _ _ hs')

/-- What leaves a block. -/
def outOf (id : Nat) : Ex → Ex
  | .exit id' => if id' = id then .normal else .exit id'
  | e => e

theorem Tri.block {c : Code} {id : Nat} {s s' : St} {e : Ex} (h : Tri P E c s e s') : Tri P E (.block id c) s (outOf id e) s' := fun w0 H0 β0 hB hG H β a w Q hs hQ =>
  wp_block (h w0 H0 β0 hB hG H β a w _ hs fun H' β' a' w' hs' => by
    cases e with
    | normal => exact hQ _ _ _ _ hs'
    | exit id' =>
      by_cases hid : id' = id
      · have := hQ _ _ _ _ hs'
        simp only [outOf, if_pos hid] at this
        simp only [exOf, Exit.inBlock, if_pos hid]
        exact this
      · have := hQ _ _ _ _ hs'
        simp only [outOf, if_neg hid] at this
        simp only [exOf, Exit.inBlock, if_neg hid]
        exact this
    | ret => exact hQ _ _ _ _ hs')

/-- n rounds and the last one. -/
def TriN (P : Program) (E : Env) (c : Code) (n : Nat) (s : St) (e : Ex) (s' : St) : Prop :=
  ∀ (w0 : World) (H0 : Hp) (β0 : Bt), Bor β0 → GOK P E H0 → ∀ (H : Hp) (β : Bt) (a : Act) (w : World) (Q : Exit → Act → World → Prop), Sim P E w0 H0 β0 H β s a w →
    (∀ H' β' a' w', Sim P E w0 H0 β0 H' β' s' a' w' → Q (exOf e) a' w') → Code.rounds P c Q n a w

theorem TriN.out {c : Code} {n : Nat} {s s' : St} {e : Ex} (h : Tri P E c s e s') (he : e ≠ .normal) : TriN P E c (n + 1) s e s' := fun w0 H0 β0 hB hG H β a w Q hs hQ => by
  rw [rounds_succ]
  refine h w0 H0 β0 hB hG H β a w _ hs fun H' β' a' w' hs' => ?_
  cases e with
  | normal => exact absurd rfl he
  | exit id => exact hQ _ _ _ _ hs'
  | ret => exact hQ _ _ _ _ hs'

theorem TriN.round {c : Code} {n : Nat} {s s1 s' : St} {e : Ex} (h : Tri P E c s .normal s1) (k : TriN P E c n s1 e s') : TriN P E c (n + 1) s e s' := fun w0 H0 β0 hB hG H β a w Q hs hQ => by
  rw [rounds_succ]
  exact h w0 H0 β0 hB hG H β a w _ hs fun H' β' a' w' hs' => k w0 H0 β0 hB hG H' β' a' w' Q hs' hQ

theorem TriN.pre {c : Code} {n : Nat} {s s1 s' : St} {e : Ex} (h : Weak P E s s1) (k : TriN P E c n s1 e s') : TriN P E c n s e s' := fun w0 H0 β0 hB hG H β a w Q hs hQ => by
  obtain ⟨β', h'⟩ := h w0 H0 β0 hB H β a w hs
  exact k w0 H0 β0 hB hG H β' a w Q h' hQ

theorem Tri.loop {c : Code} {n : Nat} {s s' : St} {e : Ex} (h : TriN P E c n s e s') : Tri P E (.loop c) s e s' := fun w0 H0 β0 hB hG H β a w Q hs hQ =>
  wp_loop_rounds n (h w0 H0 β0 hB hG H β a w Q hs hQ)

/-- A body that is run so is the contract of its function. -/
theorem Tri.con {f : FuncId} {fn : Func} {c : Code} (hf : P.funcs[f]? = some fn) (hb : fn.body = some c) {args : List V} {bo : List Ob} {e : Ex} {s' : St} {res : V} {bo' ro : List Ob}
    (h : Tri P E c (start fn args bo) e s') (he : e = .normal ∨ e = .ret) (hp : ((pack P (E.ownR f) fn bo.length s').run s'.ob).map (·.1) = some (res, bo', ro)) : Con P E f args bo res bo' ro := by
  intro H0 β0 w0 vs hG hdom hrel hPW
  have hB : Bor β0 := fun id x hx => by obtain ⟨k, _, e⟩ := hdom id x hx; exact ⟨k, e⟩
  have hstart : Sim P E w0 H0 β0 H0 β0 (start fn args bo) { tmps := vs ++ Array.replicate (fn.ntmps - vs.size) undef, defers := [] } w0 := by
    refine ⟨by simp [start, hPW.1], rfl, fun t => ?_, fun t g _ => ?_, ?_, fun id x hx => .inl hx, Bt.le_refl _, Hp.le_refl _, fun b x h1 h2 => by simp [h1] at h2, Keep.refl _ _⟩
    · simp only [start]
      by_cases ht : t < args.length
      · have h1 : args[t]? = some args[t] := List.getElem?_eq_getElem ht
        have h2 : vs[t]? = some (vs[t]'(by rw [hPW.1]; exact ht)) := by simp
        have h3 : (vs ++ Array.replicate (fn.ntmps - vs.size) undef).getD t undef = vs[t]'(by rw [hPW.1]; exact ht) := by
          rw [Array.getD_eq_getD_getElem?, Array.getElem?_append_left (by rw [hPW.1]; exact ht), h2]; rfl
        rw [h3, List.getD_eq_getElem?_getD, h1]
        exact hPW.2 t _ _ h1 h2
      · have h1 : args.getD t (.tup []) = .tup [] := by rw [List.getD_eq_getElem?_getD, List.getElem?_eq_none (by omega)]; rfl
        have h3 : (vs ++ Array.replicate (fn.ntmps - vs.size) undef).getD t undef = undef := by
          rw [Array.getD_eq_getD_getElem?, Array.getElem?_append_right (by rw [hPW.1]; omega), Array.getElem?_replicate]
          split <;> rfl
        rw [h1, h3]
        exact .tup _ _ _ rfl fun k y u hy => by simp at hy
    · cases hx : β0 (.own t g) with
      | none => rfl
      | some x => obtain ⟨k, _, e⟩ := hdom _ _ hx; simp at e
    · have : (start fn args bo).ob = obB bo := by funext id; cases id <;> rfl
      rw [this]; exact hrel
  refine calls_of_wp hf hb ?_
  refine h w0 H0 β0 hB hG H0 β0 _ w0 _ hstart fun Hx βx a' w' hs => ?_
  obtain ⟨⟨q, l⟩, hp1, hp2⟩ := Option.map_eq_some_iff.1 hp
  simp only at hp2; subst hp2
  obtain ⟨v, r1, H', β', r2⟩ := pack_sound hB hs hp1
  rcases he with rfl | rfl
  · exact ⟨hs.df, v, r1, v, H', β', rfl, r2⟩
  · exact ⟨hs.df, v, r1, v, H', β', rfl, r2⟩
end
end Go.Vi
