/- Vi, part 21: a body cut after its first parts; what a piece of code does not write. -/
import Derived.Test.YtbnglnpgkcjlhaaDoorWd
namespace Go.Vi

def headC : Nat → Code → Code
  | k + 1, .seq a b => .seq a (headC k b)
  | _, _ => .skip

def tailC : Nat → Code → Code
  | k + 1, .seq _ b => tailC k b
  | _, c => c

section
variable {P : Program} {E : Env} {C : Oracle} {fuel : Nat}

theorem evC_cut : ∀ (k : Nat) (c : Code) (s : St), evC P E C fuel c s = match evC P E C fuel (headC k c) s with | some (.normal, s') => evC P E C fuel (tailC k c) s' | r => r
  | 0, c, s => by simp [headC, tailC, evC]
  | k + 1, c, s => by
    cases c with
    | seq a b =>
      simp only [headC, tailC, evC]
      cases evC P E C fuel a s with
      | none => rfl
      | some x =>
        obtain ⟨e, s'⟩ := x
        cases e with
        | normal => exact evC_cut k b s'
        | exit i => rfl
        | ret => rfl
    | _ => simp [headC, tailC, evC]

/-- No operation writes slot t. -/
def spares (t : Nat) : Code → Bool
  | .region _ ops _ => ops.all fun o => o.dst != some t
  | .seq a b => spares t a && spares t b
  | .cond _ a b => spares t a && spares t b
  | .block _ c => spares t c
  | .loop c => spares t c
  | _ => true

theorem app_tm' {s : St} {e : Eff} {t : Nat} (h : e.dst ≠ some t) : (s.app e).tm t = s.tm t := by
  rw [app_tm]; exact if_neg h

theorem runOps_tm {ops : Array Oper} {t : Nat} : ∀ {l : List Oper} {s s' : St}, (∀ o ∈ l, o.dst ≠ some t) → runOps P E C ops l s = some s' → s'.tm t = s.tm t
  | [], s, s', _, h => by simp [runOps] at h; rw [h]
  | o :: l, s, s', hl, h => by
    simp only [runOps] at h
    split at h
    · cases h
    · rename_i e he
      rw [runOps_tm (fun o ho => hl o (by simp [ho])) h, app_tm']
      rw [effOf_dst he]
      exact hl o (by simp)

theorem effs_tm {ops : Array Oper} {t : Nat} : ∀ {l : List Oper} {s s' : St} {es : List Eff}, (∀ o ∈ l, o.dst ≠ some t) → effs P E C ops l s = some (es, s') → s'.tm t = s.tm t
  | [], s, s', es, _, h => by simp [effs] at h; rw [h.2]
  | o :: l, s, s', es, hl, h => by
    simp only [effs] at h
    split at h
    · cases h
    · rename_i e he
      split at h
      · cases h
      · rename_i es2 s2 h2
        simp only [Option.some.injEq, Prod.mk.injEq] at h
        obtain ⟨_, rfl⟩ := h
        rw [effs_tm (fun o ho => hl o (by simp [ho])) h2, app_tm']
        rw [effOf_dst he]
        exact hl o (by simp)

theorem iter_tm {t : Nat} {f : St → Option (Ex × St)} (hf : ∀ s e s', f s = some (e, s') → s'.tm t = s.tm t) : ∀ (k : Nat) (s : St) (e : Ex) (s' : St), iter f k s = some (e, s') → s'.tm t = s.tm t
  | 0, s, e, s', h => by simp [iter] at h
  | k + 1, s, e, s', h => by
    simp only [iter] at h
    split at h
    · rename_i s1 h1
      rw [iter_tm hf k s1 e s' h, hf _ _ _ h1]
    · exact hf _ _ _ h

theorem evC_tm {t : Nat} : ∀ (c : Code) (s : St) (e : Ex) (s' : St), spares t c = true → evC P E C fuel c s = some (e, s') → s'.tm t = s.tm t
  | .skip, s, e, s', _, h => by simp only [evC, Option.some.injEq, Prod.mk.injEq] at h; rw [h.2]
  | .label _, s, e, s', _, h => by simp only [evC, Option.some.injEq, Prod.mk.injEq] at h; rw [h.2]
  | .exit _, s, e, s', _, h => by simp only [evC, Option.some.injEq, Prod.mk.injEq] at h; rw [h.2]
  | .ret, s, e, s', _, h => by simp only [evC, Option.some.injEq, Prod.mk.injEq] at h; rw [h.2]
  | .region _ ops draw, s, e, s', hs, h => by
    simp only [spares, Array.all_eq_true_iff_forall_mem, bne_iff_ne] at hs
    have hs' : ∀ o ∈ ops.toList, o.dst ≠ some t := fun o ho => hs o (by simpa using ho)
    simp only [evC] at h
    split at h
    · split at h
      · rename_i es s2 h2
        split at h
        · simp only [Option.some.injEq, Prod.mk.injEq] at h
          rw [← h.2]
          exact effs_tm hs' h2
        · cases h
      · cases h
    · simp only [Option.map_eq_some_iff, Prod.mk.injEq] at h
      obtain ⟨s2, h2, _, rfl⟩ := h
      exact runOps_tm hs' h2
  | .seq a b, s, e, s', hs, h => by
    simp only [spares, Bool.and_eq_true] at hs
    simp only [evC] at h
    split at h
    · rename_i s1 h1
      rw [evC_tm b _ _ _ hs.2 h, evC_tm a _ _ _ hs.1 h1]
    · exact evC_tm a _ _ _ hs.1 h
  | .cond _ a b, s, e, s', hs, h => by
    simp only [spares, Bool.and_eq_true] at hs
    simp only [evC] at h
    split at h
    · exact evC_tm a _ _ _ hs.1 h
    · exact evC_tm b _ _ _ hs.2 h
    · cases h
  | .block _ c, s, e, s', hs, h => by
    simp only [spares] at hs
    simp only [evC] at h
    split at h
    · rename_i i s1 h1
      split at h <;> (simp only [Option.some.injEq, Prod.mk.injEq] at h; rw [← h.2]; exact evC_tm c _ _ _ hs h1)
    · exact evC_tm c _ _ _ hs h
  | .loop c, s, e, s', hs, h => by
    simp only [spares] at hs
    simp only [evC] at h
    exact iter_tm (fun s e s' h => evC_tm c s e s' hs h) fuel s e s' h
  | .rangeFunc .., s, e, s', _, h => by simp [evC] at h
  | .scope _, s, e, s', _, h => by simp [evC] at h
  | .goto _, s, e, s', _, h => by simp [evC] at h

theorem runOps_n {ops : Array Oper} : ∀ {l : List Oper} {s s' : St}, runOps P E C ops l s = some s' → s'.n = s.n
  | [], s, s', h => by simp [runOps] at h; rw [h]
  | o :: l, s, s', h => by
    simp only [runOps] at h
    split at h
    · cases h
    · rw [runOps_n h]; rfl

theorem effs_n {ops : Array Oper} : ∀ {l : List Oper} {s s' : St} {es : List Eff}, effs P E C ops l s = some (es, s') → s'.n = s.n
  | [], s, s', es, h => by simp [effs] at h; rw [h.2]
  | o :: l, s, s', es, h => by
    simp only [effs] at h
    split at h
    · cases h
    · split at h
      · cases h
      · rename_i es2 s2 h2
        simp only [Option.some.injEq, Prod.mk.injEq] at h
        obtain ⟨_, rfl⟩ := h
        rw [effs_n h2]; rfl

theorem iter_n {f : St → Option (Ex × St)} (hf : ∀ s e s', f s = some (e, s') → s'.n = s.n) : ∀ (k : Nat) (s : St) (e : Ex) (s' : St), iter f k s = some (e, s') → s'.n = s.n
  | 0, s, e, s', h => by simp [iter] at h
  | k + 1, s, e, s', h => by
    simp only [iter] at h
    split at h
    · rename_i s1 h1
      rw [iter_n hf k s1 e s' h, hf _ _ _ h1]
    · exact hf _ _ _ h

theorem evC_n : ∀ (c : Code) (s : St) (e : Ex) (s' : St), evC P E C fuel c s = some (e, s') → s'.n = s.n
  | .skip, s, e, s', h => by simp only [evC, Option.some.injEq, Prod.mk.injEq] at h; rw [h.2]
  | .label _, s, e, s', h => by simp only [evC, Option.some.injEq, Prod.mk.injEq] at h; rw [h.2]
  | .exit _, s, e, s', h => by simp only [evC, Option.some.injEq, Prod.mk.injEq] at h; rw [h.2]
  | .ret, s, e, s', h => by simp only [evC, Option.some.injEq, Prod.mk.injEq] at h; rw [h.2]
  | .region _ ops draw, s, e, s', h => by
    simp only [evC] at h
    split at h
    · split at h
      · rename_i es s2 h2
        split at h
        · simp only [Option.some.injEq, Prod.mk.injEq] at h
          rw [← h.2]
          exact effs_n h2
        · cases h
      · cases h
    · simp only [Option.map_eq_some_iff, Prod.mk.injEq] at h
      obtain ⟨s2, h2, _, rfl⟩ := h
      exact runOps_n h2
  | .seq a b, s, e, s', h => by
    simp only [evC] at h
    split at h
    · rename_i s1 h1
      rw [evC_n b _ _ _ h, evC_n a _ _ _ h1]
    · exact evC_n a _ _ _ h
  | .cond _ a b, s, e, s', h => by
    simp only [evC] at h
    split at h
    · exact evC_n a _ _ _ h
    · exact evC_n b _ _ _ h
    · cases h
  | .block _ c, s, e, s', h => by
    simp only [evC] at h
    split at h
    · rename_i i s1 h1
      split at h <;> (simp only [Option.some.injEq, Prod.mk.injEq] at h; rw [← h.2]; exact evC_n c _ _ _ h1)
    · exact evC_n c _ _ _ h
  | .loop c, s, e, s', h => by
    simp only [evC] at h
    exact iter_n (fun s e s' h => evC_n c s e s' h) fuel s e s' h
  | .rangeFunc .., s, e, s', h => by simp [evC] at h
  | .scope _, s, e, s', h => by simp [evC] at h
  | .goto _, s, e, s', h => by simp [evC] at h
end
end Go.Vi

/- Vi, part 22: what a piece of code does, from a state to a state; states may be forgotten and renamed between pieces. -/
namespace Go.Vi

/-- From a state to a state. -/
def Tri (P : Program) (E : Env) (c : Code) (s : St) (e : Ex) (s' : St) : Prop :=
  ∀ (w0 : World) (H0 : Hp) (β0 : Bt), Bor β0 → GOK P E H0 → ∀ (H : Hp) (β : Bt) (a : Act) (w : World) (Q : Exit → Act → World → Prop), Sim P E w0 H0 β0 H β s a w →
    (∀ H' β' a' w', Sim P E w0 H0 β0 H' β' s' a' w' → Q (exOf e) a' w') → c.wp P Q a w

/-- A state that says less. -/
def Weak (P : Program) (E : Env) (s s' : St) : Prop :=
  ∀ (w0 : World) (H0 : Hp) (β0 : Bt), Bor β0 → ∀ (H : Hp) (β : Bt) (a : Act) (w : World), Sim P E w0 H0 β0 H β s a w → ∃ H' β', Sim P E w0 H0 β0 H' β' s' a w

section
variable {P : Program} {E : Env} {C : Oracle}

theorem Tri.ev (hmix : P.follows .mixedOrders = true) (hC : OkC P E C) {fuel : Nat} {c : Code} {s s' : St} {e : Ex} (h : evC P E C fuel c s = some (e, s')) : Tri P E c s e s' :=
  fun _ _ _ hB hG H β a w Q hs hQ => evC_sound hmix hC hB hG fuel c H β s s' e a w Q h hs hQ

theorem Weak.refl (s : St) : Weak P E s s := fun _ _ _ _ H β _ _ hs => ⟨H, β, hs⟩
theorem Weak.trans {s t u : St} (h : Weak P E s t) (k : Weak P E t u) : Weak P E s u := fun w0 H0 β0 hB H β a w hs => by
  obtain ⟨H', β', h'⟩ := h w0 H0 β0 hB H β a w hs
  exact k w0 H0 β0 hB H' β' a w h'

theorem Tri.pre {c : Code} {s s1 s' : St} {e : Ex} (h : Weak P E s s1) (k : Tri P E c s1 e s') : Tri P E c s e s' := fun w0 H0 β0 hB hG H β a w Q hs hQ => by
  obtain ⟨H', β', h'⟩ := h w0 H0 β0 hB H β a w hs
  exact k w0 H0 β0 hB hG H' β' a w Q h' hQ

theorem Tri.post {c : Code} {s s1 s' : St} {e : Ex} (k : Tri P E c s e s1) (h : Weak P E s1 s') : Tri P E c s e s' := fun w0 H0 β0 hB hG H β a w Q hs hQ =>
  k w0 H0 β0 hB hG H β a w Q hs fun H' β' a' w' hs' => by
    obtain ⟨H2, β2, h2⟩ := h w0 H0 β0 hB H' β' a' w' hs'
    exact hQ H2 β2 a' w' h2

theorem Tri.skip (s : St) : Tri P E .skip s .normal s := fun _ _ _ _ _ _ _ _ _ _ hs hQ => wp_skip (hQ _ _ _ _ hs)

theorem Tri.seq {c d : Code} {s s1 s' : St} {e : Ex} (h : Tri P E c s .normal s1) (k : Tri P E d s1 e s') : Tri P E (.seq c d) s e s' := fun w0 H0 β0 hB hG H β a w Q hs hQ =>
  wp_seq (h w0 H0 β0 hB hG H β a w _ hs fun H' β' a' w' hs' => k w0 H0 β0 hB hG H' β' a' w' Q hs' hQ)

theorem Tri.seq_out {c d : Code} {s s' : St} {e : Ex} (h : Tri P E c s e s') (he : e ≠ .normal) : Tri P E (.seq c d) s e s' := fun w0 H0 β0 hB hG H β a w Q hs hQ =>
  wp_seq (h w0 H0 β0 hB hG H β a w _ hs fun H' β' a' w' hs' => by
    cases e with
    | normal => exact absurd rfl he
    | exit id => exact hQ _ _ _ _ hs'
    | ret => exact hQ _ _ _ _ hs')

/-- What leaves a block. -/
def outOf (id : Nat) : Ex → Ex
  | .exit id' => if id' = id then .normal else .exit id'
  | e => e

theorem Tri.block {c : Code} {id : Nat} {s s' : St} {e : Ex} (h : Tri P E c s e s') : Tri P E (.block id c) s (outOf id e) s' := fun w0 H0 β0 hB hG H β a w Q hs hQ =>
  wp_block (h w0 H0 β0 hB hG H β a w _ hs fun H' β' a' w' hs' => by
    cases e with
    | normal => exact hQ _ _ _ _ hs'
    | exit id' =>
      by_cases hid : id' = id
      · have := hQ _ _ _ _ hs'
        simp only [outOf, if_pos hid] at this
        simp only [exOf, Exit.inBlock, if_pos hid]
        exact this
      · have := hQ _ _ _ _ hs'
        simp only [outOf, if_neg hid] at this
        simp only [exOf, Exit.inBlock, if_neg hid]
        exact this
    | ret => exact hQ _ _ _ _ hs')

/-- n rounds and the last one. -/
def TriN (P : Program) (E : Env) (c : Code) (n : Nat) (s : St) (e : Ex) (s' : St) : Prop :=
  ∀ (w0 : World) (H0 : Hp) (β0 : Bt), Bor β0 → GOK P E H0 → ∀ (H : Hp) (β : Bt) (a : Act) (w : World) (Q : Exit → Act → World → Prop), Sim P E w0 H0 β0 H β s a w →
    (∀ H' β' a' w', Sim P E w0 H0 β0 H' β' s' a' w' → Q (exOf e) a' w') → Code.rounds P c Q n a w

theorem TriN.out {c : Code} {n : Nat} {s s' : St} {e : Ex} (h : Tri P E c s e s') (he : e ≠ .normal) : TriN P E c (n + 1) s e s' := fun w0 H0 β0 hB hG H β a w Q hs hQ => by
  rw [rounds_succ]
  refine h w0 H0 β0 hB hG H β a w _ hs fun H' β' a' w' hs' => ?_
  cases e with
  | normal => exact absurd rfl he
  | exit id => exact hQ _ _ _ _ hs'
  | ret => exact hQ _ _ _ _ hs'

theorem TriN.round {c : Code} {n : Nat} {s s1 s' : St} {e : Ex} (h : Tri P E c s .normal s1) (k : TriN P E c n s1 e s') : TriN P E c (n + 1) s e s' := fun w0 H0 β0 hB hG H β a w Q hs hQ => by
  rw [rounds_succ]
  exact h w0 H0 β0 hB hG H β a w _ hs fun H' β' a' w' hs' => k w0 H0 β0 hB hG H' β' a' w' Q hs' hQ

theorem TriN.pre {c : Code} {n : Nat} {s s1 s' : St} {e : Ex} (h : Weak P E s s1) (k : TriN P E c n s1 e s') : TriN P E c n s e s' := fun w0 H0 β0 hB hG H β a w Q hs hQ => by
  obtain ⟨H', β', h'⟩ := h w0 H0 β0 hB H β a w hs
  exact k w0 H0 β0 hB hG H' β' a w Q h' hQ

theorem Tri.loop {c : Code} {n : Nat} {s s' : St} {e : Ex} (h : TriN P E c n s e s') : Tri P E (.loop c) s e s' := fun w0 H0 β0 hB hG H β a w Q hs hQ =>
  wp_loop_rounds n (h w0 H0 β0 hB hG H β a w Q hs hQ)

/-- A body that is run so is the contract of its function. -/
theorem Tri.con {f : FuncId} {fn : Func} {c : Code} (hf : P.funcs[f]? = some fn) (hb : fn.body = some c) {args : List V} {bo : List Ob} {e : Ex} {s' : St} {res : V} {bo' ro : List Ob}
    (h : Tri P E c (start fn args bo) e s') (he : e = .normal ∨ e = .ret) (hp : ((pack P (E.ownR f) fn bo.length s').run s'.ob).map (·.1) = some (res, bo', ro)) : Con P E f args bo res bo' ro := by
  intro H0 β0 w0 vs hG hdom hrel hPW
  have hB : Bor β0 := fun id x hx => by obtain ⟨k, _, e⟩ := hdom id x hx; exact ⟨k, e⟩
  have hstart : Sim P E w0 H0 β0 H0 β0 (start fn args bo) { tmps := vs ++ Array.replicate (fn.ntmps - vs.size) undef, defers := [] } w0 := by
    refine ⟨by simp [start, hPW.1], rfl, fun t => ?_, fun t g _ => ?_, ?_, fun id x hx => .inl hx, Bt.le_refl _, Hp.le_refl _, fun b x h1 h2 => by simp [h1] at h2, Keep.refl _ _⟩
    · simp only [start]
      by_cases ht : t < args.length
      · have h1 : args[t]? = some args[t] := List.getElem?_eq_getElem ht
        have h2 : vs[t]? = some (vs[t]'(by rw [hPW.1]; exact ht)) := by simp
        have h3 : (vs ++ Array.replicate (fn.ntmps - vs.size) undef).getD t undef = vs[t]'(by rw [hPW.1]; exact ht) := by
          rw [Array.getD_eq_getD_getElem?, Array.getElem?_append_left (by rw [hPW.1]; exact ht), h2]; rfl
        rw [h3, List.getD_eq_getElem?_getD, h1]
        exact hPW.2 t _ _ h1 h2
      · have h1 : args.getD t (.tup []) = .tup [] := by rw [List.getD_eq_getElem?_getD, List.getElem?_eq_none (by omega)]; rfl
        have h3 : (vs ++ Array.replicate (fn.ntmps - vs.size) undef).getD t undef = undef := by
          rw [Array.getD_eq_getD_getElem?, Array.getElem?_append_right (by rw [hPW.1]; omega), Array.getElem?_replicate]
          split <;> rfl
        rw [h1, h3]
        exact .tup _ _ _ rfl fun k y u hy => by simp at hy
    · cases hx : β0 (.own t g) with
      | none => rfl
      | some x => obtain ⟨k, _, e⟩ := hdom _ _ hx; simp at e
    · have : (start fn args bo).ob = obB bo := by funext id; cases id <;> rfl
      rw [this]; exact hrel
  refine calls_of_wp hf hb ?_
  refine h w0 H0 β0 hB hG H0 β0 _ w0 _ hstart fun Hx βx a' w' hs => ?_
  obtain ⟨⟨q, l⟩, hp1, hp2⟩ := Option.map_eq_some_iff.1 hp
  simp only at hp2; subst hp2
  obtain ⟨v, r1, H', β', r2⟩ := pack_sound hB hs hp1
  rcases he with rfl | rfl
  · exact ⟨hs.df, v, r1, v, H', β', rfl, r2⟩
  · exact ⟨hs.df, v, r1, v, H', β', rfl, r2⟩
end
end Go.Vi

/- Vi, part 23: forgetting and renaming. -/
namespace Go.Vi

/-- A value under other names: g tells the old name of a new one. -/
inductive RN (g : Id → Option Id) : V → V → Prop
  | junk (v) : RN g v .junk
  | nv (v) : v.nv = true → RN g v v
  | nl : RN g .nl .nl
  | e0 : RN g .e0 .e0
  | lp (a b off) : g b = some a → RN g (.lp a off) (.lp b off)
  | sl (a b off n e x) : g b = some a → RN g (.sl a off n e x) (.sl b off n e x)
  | agg (l l') : l'.length = l.length → (∀ (k : Nat) y y', l[k]? = some y → l'[k]? = some y' → RN g y y') → RN g (.agg l) (.agg l')
  | tup (l l') : l'.length = l.length → (∀ (k : Nat) y y', l[k]? = some y → l'[k]? = some y' → RN g y y') → RN g (.tup l) (.tup l')
  | fn (f l l') : l'.length = l.length → (∀ (k : Nat) y y', l[k]? = some y → l'[k]? = some y' → RN g y y') → RN g (.fn f l) (.fn f l')
  | gh (b e) : RN g .nl (.sl b 0 0 e false)
  | gh0 (b e) : RN g .e0 (.sl b 0 0 e false)
  | slx (a b off n e) : g b = some a → RN g (.sl a off n e true) (.sl b off n e false)

section
variable {P : Program} {H : Hp} {β β' : Bt} {g : Id → Option Id}

theorem RV_nv {v : V} {u : Value} (h : RV P H β v u) : v.nv = true → ∀ β', RV P H β' v u := by
  induction h with
  | junk => intro h; simp [V.nv] at h
  | int => intro _ β'; exact .int ..
  | bool => intro _ β'; exact .bool ..
  | str => intro _ β'; exact .str ..
  | agg β l cs hn _ ih => intro h β'; exact .agg _ _ _ hn fun k y u hy hu => ih k y u hy hu (nvs_get (by simpa [V.nv] using h) _ _ hy) β'
  | tup β l cs hn _ ih => intro h β'; exact .tup _ _ _ hn fun k y u hy hu => ih k y u hy hu (nvs_get (by simpa [V.nv] using h) _ _ hy) β'
  | lp => intro h; simp [V.nv] at h
  | sl => intro h; simp [V.nv] at h
  | sl0 => intro h; simp [V.nv] at h
  | nl => intro h; simp [V.nv] at h
  | e0 => intro h; simp [V.nv] at h
  | fs0 => intro _ β'; exact .fs0 ..
  | fs β l b off es cap arr ty fr h1 h2 h3 h4 h5 _ => intro _ β'; exact .fs _ _ _ _ _ _ _ _ _ h1 h2 h3 h4 h5
  | fp β cells off b base arr ty fr h2 h3 h4 _ => intro _ β'; exact .fp _ _ _ _ _ _ _ _ h2 h3 h4
  | fn => intro h; simp [V.nv] at h

theorem RN.rv (hβ : ∀ b a x, g b = some a → β a = some x → β' b = some x) {v v' : V} (h : RN g v v') : ∀ {u : Value}, RV P H β v u → RV P H β' v' u := by
  induction h with
  | junk v => intro u _; exact .junk ..
  | nv v hv => intro u h; exact RV_nv h hv β'
  | nl => intro u h; cases h; exact .nl ..
  | e0 => intro u h; cases h; exact .e0 ..
  | lp a b off hg => intro u h; cases h; rename_i h1; exact .lp _ _ _ _ _ (hβ _ _ _ hg h1)
  | sl a b off n e x hg =>
    intro u h
    cases h with
    | sl _ _ _ _ _ _ b' sz es cap h1 h2 h3 h4 h5 => exact .sl _ _ _ _ _ _ _ _ _ _ (hβ _ _ _ hg h1) h2 h3 h4 h5
    | sl0 => exact .sl0 ..
  | gh b e => intro u h; cases h; exact .sl0 ..
  | gh0 b e => intro u h; cases h; exact .sl0 ..
  | slx a b off n e hg =>
    intro u h
    cases h with
    | sl _ _ _ _ _ _ b' sz es cap h1 h2 h3 h4 h5 => exact .sl _ _ _ _ _ _ _ _ _ _ (hβ _ _ _ hg h1) h2 h3 h4 (by intro h; cases h)
  | agg l l' hl _ ih =>
    intro u h
    cases h with
    | agg _ _ cs hn hk =>
      refine .agg _ _ _ (by rw [hn, hl]) fun k y' u hy' hu => ?_
      have hlt : k < l.length := by rw [← hl]; exact (List.getElem?_eq_some_iff.1 hy').1
      exact ih k l[k] y' (List.getElem?_eq_getElem hlt) hy' (hk k _ u (List.getElem?_eq_getElem hlt) hu)
  | tup l l' hl _ ih =>
    intro u h
    cases h with
    | tup _ _ cs hn hk =>
      refine .tup _ _ _ (by rw [hn, hl]) fun k y' u hy' hu => ?_
      have hlt : k < l.length := by rw [← hl]; exact (List.getElem?_eq_some_iff.1 hy').1
      exact ih k l[k] y' (List.getElem?_eq_getElem hlt) hy' (hk k _ u (List.getElem?_eq_getElem hlt) hu)
  | fn f l l' hl _ ih =>
    intro u h
    cases h with
    | fn _ _ _ cs hn hk =>
      refine .fn _ _ _ _ (by rw [hn, hl]) fun k y' u hy' hu => ?_
      have hlt : k < l.length := by rw [← hl]; exact (List.getElem?_eq_some_iff.1 hy').1
      exact ih k l[k] y' (List.getElem?_eq_getElem hlt) hy' (hk k _ u (List.getElem?_eq_getElem hlt) hu)

end

def getT : List (Nat × V) → Nat → V
  | [], _ => .junk
  | (k, v) :: l, t => if t = k then v else getT l t

def getN : List (Nat × Nat) → Nat → Nat
  | [], _ => 0
  | (k, v) :: l, t => if t = k then v else getN l t

def getO : List (Id × Ob) → Id → Option Ob
  | [], _ => none
  | (k, v) :: l, t => if t = k then some v else getO l t

/-- A state, told: its slots, its counts, its objects. -/
def mkSt (n : Nat) (T : List (Nat × V)) (X : List (Nat × Nat)) (O : List (Id × Ob)) : St := { n := n, tm := getT T, nx := getN X, ob := getO O }

def getI : List (Id × Id) → Id → Option Id
  | [], _ => none
  | (k, v) :: l, t => if t = k then some v else getI l t

/-- The old name of a new one; G: pairs of a new and an old name. -/
def oldOf (G : List (Id × Id)) : Id → Option Id
  | .bor k => some (.bor k)
  | .own t k => getI G (.own t k)
  | .ret _ => none

def newOf (G : List (Id × Id)) : Id → Option Id
  | .bor k => some (.bor k)
  | .own t k => getI (G.map fun p => (p.2, p.1)) (.own t k)
  | .ret _ => none

def isOwnB : Id → Bool
  | .own _ _ => true
  | _ => false

def distinctI : List Id → Bool
  | [] => true
  | a :: l => !(l.any fun b => decide (a = b)) && distinctI l

/-- The names are fit: own names only, no old one twice, no new one twice, all new ones counted. -/
def fitG (G : List (Id × Id)) (X : List (Nat × Nat)) : Bool :=
  (G.all fun p => isOwnB p.1 && isOwnB p.2) && distinctI (G.map (·.1)) && distinctI (G.map (·.2)) && G.all fun p => match p.1 with | .own t k => decide (k < getN X t) | _ => false

theorem getI_mem : ∀ {G : List (Id × Id)} {b a : Id}, getI G b = some a → (b, a) ∈ G
  | [], b, a, h => by simp [getI] at h
  | (k, v) :: l, b, a, h => by
    simp only [getI] at h
    split at h
    · rename_i e; obtain rfl := Option.some.inj h; subst e; simp
    · exact List.mem_cons_of_mem _ (getI_mem h)

theorem distinctI_out {a : Id} {l : List Id} (h : distinctI (a :: l) = true) : a ∉ l ∧ distinctI l = true := by
  simp only [distinctI, Bool.and_eq_true, Bool.not_eq_true', List.any_eq_false, decide_eq_true_eq] at h
  exact ⟨fun hm => h.1 a hm rfl, h.2⟩

theorem getI_of_mem : ∀ {G : List (Id × Id)} {b a : Id}, distinctI (G.map (·.1)) = true → (b, a) ∈ G → getI G b = some a
  | [], b, a, _, h => by simp at h
  | (k, v) :: l, b, a, hd, h => by
    obtain ⟨h1, h2⟩ := distinctI_out (by simpa using hd)
    simp only [getI]
    simp only [List.mem_cons, Prod.mk.injEq] at h
    rcases h with ⟨rfl, rfl⟩ | h
    · simp
    · have : b ≠ k := by
        rintro rfl
        exact h1 (List.mem_map.2 ⟨_, h, rfl⟩)
      rw [if_neg this]
      exact getI_of_mem h2 h

theorem mem_inj : ∀ {G : List (Id × Id)} {b b' a : Id}, distinctI (G.map (·.2)) = true → (b, a) ∈ G → (b', a) ∈ G → b = b'
  | [], _, _, _, _, h, _ => by simp at h
  | (k, v) :: l, b, b', a, hd, h, h' => by
    obtain ⟨h1, h2⟩ := distinctI_out (by simpa using hd)
    simp only [List.mem_cons, Prod.mk.injEq] at h h'
    rcases h with ⟨rfl, rfl⟩ | h
    · rcases h' with ⟨rfl, _⟩ | h'
      · rfl
      · exact absurd (List.mem_map.2 ⟨_, h', rfl⟩) h1
    · rcases h' with ⟨rfl, rfl⟩ | h'
      · exact absurd (List.mem_map.2 ⟨_, h, rfl⟩) h1
      · exact mem_inj h2 h h'

theorem getO_mem : ∀ {O : List (Id × Ob)} {b : Id} {a : Ob}, getO O b = some a → (b, a) ∈ O
  | [], b, a, h => by simp [getO] at h
  | (k, v) :: l, b, a, h => by
    simp only [getO] at h
    split at h
    · rename_i e; obtain rfl := Option.some.inj h; subst e; simp
    · exact List.mem_cons_of_mem _ (getO_mem h)

/-- The places of new names. -/
def bOf (G : List (Id × Id)) (β : Bt) : Bt := fun b => (oldOf G b).bind β

theorem bOf_some {G : List (Id × Id)} {β : Bt} {b a : Id} {x : Nat × Nat} (h1 : oldOf G b = some a) (h2 : β a = some x) : bOf G β b = some x := by simp only [bOf, h1, Option.bind_some, h2]

theorem sim_mk {P : Program} {E : Env} {w0 : World} {H0 H : Hp} {β0 β : Bt} {s : St} {a : Act} {w : World} {n : Nat} {T : List (Nat × V)} {X : List (Nat × Nat)} {O : List (Id × Ob)} {G : List (Id × Id)} (hB : Bor β0) (hs : Sim P E w0 H0 β0 H β s a w) (hn : s.n = n) (hG : fitG G X = true)
    (hT : ∀ t v, (t, v) ∈ T → RV P H (bOf G β) v (a.tmps.getD t undef))
    (hO : ∀ b o', (b, o') ∈ O → (∃ a o, oldOf G b = some a ∧ s.ob a = some o ∧ o'.ty = o.ty ∧ o'.fz = o.fz ∧ o'.cells.length = o.cells.length ∧ ∀ (k : Nat) y y', o.cells[k]? = some y → o'.cells[k]? = some y' → ∀ u, RV P H β y u → RV P H (bOf G β) y' u) ∨ (oldOf G b = none ∧ o'.cells = [])) :
    Sim P E w0 H0 β0 H (bOf G β) (mkSt n T X O) a w := by
  simp only [fitG, Bool.and_eq_true, List.all_eq_true] at hG
  obtain ⟨⟨⟨g1, g2⟩, g3⟩, g4⟩ := hG
  have hβ : ∀ b a x, oldOf G b = some a → β a = some x → bOf G β b = some x := fun b a x h1 h2 => bOf_some h1 h2
  have hβ' : ∀ b x, bOf G β b = some x → ∃ a, oldOf G b = some a ∧ β a = some x := fun b x h => by simpa only [bOf, Option.bind_eq_some_iff] using h
  have hinj : ∀ b b' a, oldOf G b = some a → oldOf G b' = some a → b = b' := by
    intro b b' a h h'
    cases b with
    | ret k => simp [oldOf] at h
    | bor k =>
      simp only [oldOf, Option.some.injEq] at h
      subst h
      cases b' with
      | ret k => simp [oldOf] at h'
      | bor k' => simp only [oldOf, Option.some.injEq] at h'; exact h'.symm
      | own t k' =>
        have := g1 _ (getI_mem (by simpa only [oldOf] using h'))
        simp [isOwnB] at this
    | own t k =>
      cases b' with
      | ret k => simp [oldOf] at h'
      | bor k' =>
        simp only [oldOf, Option.some.injEq] at h'
        subst h'
        have := g1 _ (getI_mem (by simpa only [oldOf] using h))
        simp [isOwnB] at this
      | own t' k' => exact mem_inj g3 (getI_mem (by simpa only [oldOf] using h)) (getI_mem (by simpa only [oldOf] using h'))
  refine ⟨hs.n.trans hn, hs.df, fun t => ?_, fun t k hk => ?_, ⟨fun b o' ho' => ?_, fun b b' o o' bl sz sz' ho ho' hb hb' => ?_, hs.rel.hp⟩, fun b x hx => ?_, fun id x hx => ?_, hs.hH, hs.hfr, hs.keep⟩
  · have key : ∀ T' : List (Nat × V), (∀ t v, (t, v) ∈ T' → RV P H (bOf G β) v (a.tmps.getD t undef)) → RV P H (bOf G β) (getT T' t) (a.tmps.getD t undef) := by
      intro T'
      induction T' with
      | nil => intro _; exact .junk ..
      | cons p T' ih =>
        intro hT
        obtain ⟨k, v⟩ := p
        simp only [getT]
        split
        · rename_i e; subst e; exact hT t v (by simp)
        · exact ih fun t v hm => hT t v (by simp [hm])
    exact key T hT
  · cases hx : bOf G β (.own t k) with
    | none => rfl
    | some x =>
      obtain ⟨a', h1, _⟩ := hβ' _ _ hx
      have := g4 _ (getI_mem (by simpa only [oldOf] using h1))
      simp only [decide_eq_true_eq] at this
      simp only [mkSt] at hk
      omega
  · rcases hO b o' (getO_mem ho') with ⟨a', o, h1, h2, h3, h4, h5, h6⟩ | ⟨h1, h2⟩
    case inr => exact .inr ⟨by simp [bOf, h1], h2⟩
    rcases hs.rel.obj _ _ h2 with hreal | ⟨g0, gc⟩
    case inr => exact .inr ⟨by simp [bOf, h1, g0], List.eq_nil_of_length_eq_zero (by rw [h5, gc]; rfl)⟩
    obtain ⟨bl, sz, arr, fr, p1, p2, p3, p4, p5, p6, p7⟩ := hreal.out
    refine .inl ⟨bl, sz, arr, fr, hβ _ _ _ h1 p1, by rw [h3]; exact p2, p3, p4, ⟨by rw [h5]; exact p5.1, fun k y' u hy' hu => ?_⟩, by rw [h4, h3]; exact p6, by rw [h4]; exact p7⟩
    have hlt : k < o.cells.length := by rw [← h5]; exact (List.getElem?_eq_some_iff.1 hy').1
    exact h6 k _ y' (List.getElem?_eq_getElem hlt) hy' u (p5.2 k _ u (List.getElem?_eq_getElem hlt) hu)
  · obtain ⟨c1, q1, q2⟩ := hβ' _ _ hb
    obtain ⟨c2, r1, r2⟩ := hβ' _ _ hb'
    rcases hO b o (getO_mem ho) with ⟨a1, o1, h1, h2, _⟩ | ⟨h1, _⟩
    case inr => rw [h1] at q1; cases q1
    rcases hO b' o' (getO_mem ho') with ⟨a2, o2, k1, k2, _⟩ | ⟨k1, _⟩
    case inr => rw [k1] at r1; cases r1
    rw [h1] at q1; obtain rfl := Option.some.inj q1
    rw [k1] at r1; obtain rfl := Option.some.inj r1
    have := hs.rel.inj _ _ _ _ _ _ _ h2 k2 q2 r2
    subst this
    exact hinj _ _ _ h1 k1
  · obtain ⟨a', h1, h2⟩ := hβ' _ _ hx
    rcases hs.dom _ _ h2 with h3 | ⟨t, k, rfl, h4⟩
    · obtain ⟨k, rfl⟩ := hB _ _ h3
      have : b = .bor k := hinj _ _ _ h1 rfl
      subst this
      exact .inl h3
    · cases b with
      | ret k => simp [oldOf] at h1
      | bor k' => simp [oldOf] at h1
      | own t' k' => exact .inr ⟨t', k', rfl, h4⟩
  · obtain ⟨k, rfl⟩ := hB _ _ hx
    exact hβ _ _ _ rfl (hs.hb _ _ hx)

/-- Less is said, under other names. -/
theorem weak_mk {P : Program} {E : Env} {s : St} {n : Nat} {T : List (Nat × V)} {X : List (Nat × Nat)} {O : List (Id × Ob)} {G : List (Id × Id)} (hn : s.n = n) (hG : fitG G X = true)
    (hT : ∀ t v, (t, v) ∈ T → RN (oldOf G) (s.tm t) v)
    (hO : ∀ b o', (b, o') ∈ O → (∃ a o, oldOf G b = some a ∧ s.ob a = some o ∧ o'.ty = o.ty ∧ o'.fz = o.fz ∧ o'.cells.length = o.cells.length ∧ ∀ (k : Nat) y y', o.cells[k]? = some y → o'.cells[k]? = some y' → RN (oldOf G) y y') ∨ (oldOf G b = none ∧ o'.cells = [])) :
    Weak P E s (mkSt n T X O) := fun _ _ _ hB H β _ _ hs =>
  ⟨H, bOf G β, sim_mk hB hs hn hG (fun t v hm => (hT t v hm).rv (fun _ _ _ h1 h2 => bOf_some h1 h2) (hs.tm t)) fun b o' hm => by
    rcases hO b o' hm with ⟨a, o, h1, h2, h3, h4, h5, h6⟩ | h
    · exact .inl ⟨a, o, h1, h2, h3, h4, h5, fun k y y' hy hy' u hu => (h6 k y y' hy hy').rv (fun _ _ _ h1 h2 => bOf_some h1 h2) hu⟩
    · exact .inr h⟩
end Go.Vi

/- Vi, part 24: the interpreter with decisions: where a symbolic truth is met, or a call whose answer is known, the answer is given and noted as a condition. -/
namespace Go.Vi

inductive Dec where
  | cond (v : Bool)
  | guard (v : Bool)
  | call (r : V × List Ob × List Ob)
  | res (r : Res) (l : List Id)
  | v (v : V)

abbrev Ds := List (Nat × Dec)

theorem Rd.run_bind_eq {α γ : Type} {ob : Id → Option Ob} {m : Rd α} {a : α} {l : List Id} (f : α → Rd γ) (h : m.run ob = some (a, l)) :
    (m.bind f).run ob = ((f a).run ob).map fun x => (x.1, l ++ x.2) := by
  induction m generalizing l with
  | pure b => simp only [Rd.run, Option.some.injEq, Prod.mk.injEq] at h; obtain ⟨rfl, rfl⟩ := h; simp [Rd.bind]
  | fail => simp [Rd.run] at h
  | look id k ih =>
    simp only [Rd.run] at h
    cases ho : ob id with
    | none => rw [ho] at h; simp at h
    | some o =>
      rw [ho] at h
      simp only at h
      cases hk : (k o).run ob with
      | none => rw [hk] at h; simp at h
      | some x =>
        obtain ⟨b, l1⟩ := x
        rw [hk] at h
        simp only [Option.some.injEq, Prod.mk.injEq] at h
        obtain ⟨rfl, rfl⟩ := h
        simp only [Rd.bind, Rd.run, ho, ih o hk]
        cases (f b).run ob with
        | none => rfl
        | some y => rfl

theorem Rd.run_bind_none {α γ : Type} {ob : Id → Option Ob} {m : Rd α} (f : α → Rd γ) (h : m.run ob = none) : (m.bind f).run ob = none := by
  induction m with
  | pure b => simp [Rd.run] at h
  | fail => rfl
  | look id k ih =>
    simp only [Rd.run] at h
    cases ho : ob id with
    | none => simp [Rd.bind, Rd.run, ho]
    | some o =>
      rw [ho] at h
      simp only at h
      cases hk : (k o).run ob with
      | some x => rw [hk] at h; simp at h
      | none => simp only [Rd.bind, Rd.run, ho, ih o hk]

section
variable (P : Program)

/-- What a call asks. -/
def preCall (E : Env) (f : V) (args : List V) : Rd (FuncId × List V × List Ob) :=
  match f with
  | .fn f caps =>
    let as := args ++ caps
    let bs := E.mutA f
    let ids := dedup (as.flatMap (refs bs depth))
    let nm := fun id => (idx id ids).map Id.bor
    (mapRd (nrm P nm bs depth) as).bind fun as' =>
    (lookAll ids).bind fun obs =>
    (nrmObs P obs).bind fun bo => .pure (f, as', bo)
  | _ => .fail

theorem vCall_pre {E : Env} {C : Oracle} {f : V} {args : List V} {t g : Nat} {ob : Id → Option Ob} {q : FuncId × List V × List Ob} {l : List Id} {r : V × List Ob × List Ob} (h : (preCall P E f args).run ob = some (q, l))
    (hC : C q.1 q.2.1 q.2.2 = some r) : (vCall P E C f args t g).run ob = (vCall P E (fun _ _ _ => some r) f args t g).run ob := by
  cases f with
  | fn f caps =>
    simp only [preCall] at h
    simp only [vCall]
    cases h1 : (mapRd (nrm P (fun id => (idx id (dedup ((args ++ caps).flatMap (refs (E.mutA f) depth)))).map Id.bor) (E.mutA f) depth) (args ++ caps)).run ob with
    | none => rw [Rd.run_bind_none _ h1] at h; cases h
    | some x1 =>
      obtain ⟨as', l1⟩ := x1
      rw [Rd.run_bind_eq _ h1] at h
      rw [Rd.run_bind_eq _ h1, Rd.run_bind_eq _ h1]
      simp only [Option.map_eq_some_iff] at h
      obtain ⟨⟨q1, k1⟩, h, he⟩ := h
      cases h2 : (lookAll (dedup ((args ++ caps).flatMap (refs (E.mutA f) depth)))).run ob with
      | none => rw [Rd.run_bind_none _ h2] at h; cases h
      | some x2 =>
        obtain ⟨obs, l2⟩ := x2
        rw [Rd.run_bind_eq _ h2] at h
        rw [Rd.run_bind_eq _ h2, Rd.run_bind_eq _ h2]
        simp only [Option.map_eq_some_iff] at h
        obtain ⟨⟨q2, k2⟩, h, he2⟩ := h
        cases h3 : (nrmObs P obs).run ob with
        | none => rw [Rd.run_bind_none _ h3] at h; cases h
        | some x3 =>
          obtain ⟨bo, l3⟩ := x3
          rw [Rd.run_bind_eq _ h3] at h
          rw [Rd.run_bind_eq _ h3, Rd.run_bind_eq _ h3]
          simp only [Rd.run, Option.map_some, Option.some.injEq, Prod.mk.injEq] at h
          simp only [Prod.mk.injEq] at he he2
          obtain ⟨rfl, _⟩ := he
          obtain ⟨rfl, _⟩ := he2
          obtain ⟨rfl, _⟩ := h
          simp only at hC
          simp only [hC]
  | _ => simp [preCall, Rd.run] at h

def callOp (o : Oper) : Option (Operand × List Operand) :=
  match o.op with
  | .call c => match c.callee with | .value f => some (f, c.args.toList) | _ => none
  | _ => none

theorem core_pre {E : Env} {C : Oracle} {ρ : Operand → V} {t g : Nat} {o : Oper} {f : Operand} {as : List Operand} {ob : Id → Option Ob} {q : FuncId × List V × List Ob} {l : List Id} {r : V × List Ob × List Ob}
    (ho : callOp o = some (f, as)) (h : (preCall P E (ρ f) (as.map ρ)).run ob = some (q, l)) (hC : C q.1 q.2.1 q.2.2 = some r) :
    (core P E C ρ t g o).run ob = (core P E (fun _ _ _ => some r) ρ t g o).run ob := by
  unfold callOp at ho
  split at ho
  · rename_i c hc
    split at ho
    · rename_i f' hf'
      simp only [Option.some.injEq, Prod.mk.injEq] at ho
      obtain ⟨rfl, rfl⟩ := ho
      simp only [core, hc, hf']
      exact vCall_pre P h hC
    · cases ho
  · cases ho

/-- The truth first. -/
def sb {α : Type} (b : Bool) (f : Bool → α) : α :=
  match b with
  | true => f true
  | false => f false

theorem sb_eq {α : Type} (b : Bool) (f : Bool → α) : sb b f = f b := by cases b <;> rfl

/-- The truth in slot t is told. -/
def tellT (tm : Nat → V) (t : Nat) (v : Bool) : Nat → V := fun u => if u = t then .bool v else tm u

def wantA (ds : Ds) (key : Nat) (ops : Array Oper) (tm : Nat → V) (o : Oper) : Option (Bool × (Nat → V) × Ds × List Prop) :=
  match o.guard with
  | none => some (true, tm, ds, [])
  | some (j, w) =>
    match (ops[j]?).bind (·.dst) with
    | some t =>
      match tm t with
      | .bool b =>
        match ds with
        | (k, .guard v) :: r => if k = key then some (v == w, tellT tm t v, r, [b = v]) else sb (b == w) fun v => some (v, tm, ds, [])
        | _ => sb (b == w) fun v => some (v, tm, ds, [])
      | .tup _ => some (false, tm, ds, [])
      | _ => none
    | none => none

/-- That an operation gives this value, said shortly. -/
def opIs (ρ : Operand → V) (ob : Id → Option Ob) (o : Oper) (v : V) : Option (List Id × Prop) :=
  match o.op with
  | .indexAddr ty x i => some ([], vIndexAddr P ty (ρ x) (ρ i) = some v)
  | .index ty x i => some ([], vIndex P ty (ρ x) (ρ i) = some v)
  | .binOp op ty x y _ => some ([], vBin P op ty (ρ x) (ρ y) = some v)
  | .slice ty x lo hi mx => some ([], (vSlice P ty (ρ x) (lo.map ρ) (hi.map ρ) (mx.map ρ)).run ob = some (v, []))
  | .load ty a =>
    match ρ a with
    | .lp id off => match ob id with | some q => some ([id], ld P ty q.cells off = some v) | none => none
    | .fp c off => some ([], ld P ty c off = some v)
    | _ => none
  | _ => none

theorem opIs_ok {E : Env} {C : Oracle} {ρ : Operand → V} {t g : Nat} {ob : Id → Option Ob} {o : Oper} {v : V} {l : List Id} {p : Prop} (h : opIs P ρ ob o v = some (l, p)) (hp : p) :
    (core P E C ρ t g o).run ob = some (⟨v, [], 0⟩, l) := by
  unfold opIs at h
  split at h
  · rename_i ty x i ho
    simp only [Option.some.injEq, Prod.mk.injEq] at h
    obtain ⟨rfl, rfl⟩ := h
    simp [core, ho, hp, val, opt, Rd.bind, Rd.run]
  · rename_i ty x i ho
    simp only [Option.some.injEq, Prod.mk.injEq] at h
    obtain ⟨rfl, rfl⟩ := h
    simp [core, ho, hp, val, opt, Rd.bind, Rd.run]
  · rename_i op ty x y z ho
    simp only [Option.some.injEq, Prod.mk.injEq] at h
    obtain ⟨rfl, rfl⟩ := h
    simp [core, ho, hp, val, opt, Rd.bind, Rd.run]
  · rename_i ty x lo hi mx ho
    simp only [Option.some.injEq, Prod.mk.injEq] at h
    obtain ⟨rfl, rfl⟩ := h
    simp only [core, ho, Rd.run_bind_eq _ hp, Rd.run, Option.map_some, List.nil_append]
  · rename_i ty a ho
    split at h
    · rename_i id off ha
      split at h
      · rename_i q hq
        simp only [Option.some.injEq, Prod.mk.injEq] at h
        obtain ⟨rfl, rfl⟩ := h
        simp [core, ho, ha, hp, hq, val, opt, Rd.bind, Rd.run]
      · cases h
    · rename_i c off ha
      simp only [Option.some.injEq, Prod.mk.injEq] at h
      obtain ⟨rfl, rfl⟩ := h
      simp [core, ho, ha, hp, val, opt, Rd.bind, Rd.run]
    · cases h
  · cases h

def coreA (E : Env) (C : Oracle) (ds : Ds) (key : Nat) (ρ : Operand → V) (t g : Nat) (o : Oper) (ob : Id → Option Ob) : Option (Res × List Id × Ds × List Prop) :=
  match ds with
  | (k, .res r l) :: rest =>
    if k = key then some (r, l, rest, [(core P E C ρ t g o).run ob = some (r, l)])
    else ((core P E C ρ t g o).run ob).map fun x => (x.1, x.2, ds, [])
  | (k, .v v) :: rest =>
    if k = key then
      match opIs P ρ ob o v with
      | some (l, p) => some (⟨v, [], 0⟩, l, rest, [p])
      | none => none
    else ((core P E C ρ t g o).run ob).map fun x => (x.1, x.2, ds, [])
  | (k, .call r) :: rest =>
    if k = key then
      match callOp o with
      | some (f, as) =>
        match (preCall P E (ρ f) (as.map ρ)).run ob with
        | some (q, _) => ((core P E (fun _ _ _ => some r) ρ t g o).run ob).map fun x => (x.1, x.2, rest, [C q.1 q.2.1 q.2.2 = some r])
        | none => none
      | none => none
    else ((core P E C ρ t g o).run ob).map fun x => (x.1, x.2, ds, [])
  | _ => ((core P E C ρ t g o).run ob).map fun x => (x.1, x.2, ds, [])

def effA (E : Env) (C : Oracle) (ds : Ds) (ops : Array Oper) (o : Oper) (s : St) : Option (Eff × St × Ds × List Prop) :=
  if !dstOk s o.dst then none else
  match wantA ds (o.dst.getD s.n) ops s.tm o with
  | none => none
  | some (false, tm, ds, cs) => some (⟨o.dst, .tup [], 0, [], []⟩, { s with tm := tm }, ds, cs)
  | some (true, tm, ds, cs) =>
    match coreA P E C ds (o.dst.getD s.n) (evO E tm) (o.dst.getD s.n) (s.nx (o.dst.getD s.n)) o s.ob with
    | none => none
    | some (r, l, ds', cs') => if o.dst.isNone && r.nw != 0 then none else some (⟨o.dst, r.v, r.nw, r.up, l⟩, { s with tm := tm }, ds', cs ++ cs')

def runA (E : Env) (C : Oracle) (ops : Array Oper) : Ds → List Oper → St → Option (St × Ds × List Prop)
  | ds, [], s => some (s, ds, [])
  | ds, o :: l, s =>
    match effA P E C ds ops o s with
    | none => none
    | some (e, s1, ds1, c1) =>
      match runA E C ops ds1 l (s1.app e) with
      | none => none
      | some (s', ds2, c2) => some (s', ds2, c1 ++ c2)

def effsA (E : Env) (C : Oracle) (ops : Array Oper) : Ds → List Oper → St → Option (List Eff × St × Ds × List Prop)
  | ds, [], s => some ([], s, ds, [])
  | ds, o :: l, s =>
    match effA P E C ds ops o s with
    | none => none
    | some (e, s1, ds1, c1) =>
      match effsA E C ops ds1 l (s1.app e) with
      | none => none
      | some (es, s', ds2, c2) => some (e :: es, s', ds2, c1 ++ c2)

def iterA (f : Ds → St → Option ((Ex × St) × Ds × List Prop)) : Nat → Ds → St → Option ((Ex × St) × Ds × List Prop)
  | 0, _, _ => none
  | k + 1, ds, s =>
    match f ds s with
    | some ((.normal, s'), ds1, c1) =>
      match iterA f k ds1 s' with
      | some (r, ds2, c2) => some (r, ds2, c1 ++ c2)
      | none => none
    | r => r

def condA (ds : Ds) (tm : Nat → V) : Operand → V → Option (Bool × (Nat → V) × Ds × List Prop)
  | .tmp t, .bool b =>
    match ds with
    | (k, .cond v) :: r => if k = t then some (v, tellT tm t v, r, [b = v]) else sb b fun v => some (v, tm, ds, [])
    | _ => sb b fun v => some (v, tm, ds, [])
  | _, .bool b => sb b fun v => some (v, tm, ds, [])
  | _, _ => none

def evA (E : Env) (C : Oracle) (fuel : Nat) : Code → Ds → St → Option ((Ex × St) × Ds × List Prop)
  | .skip, ds, s => some ((.normal, s), ds, [])
  | .label _, ds, s => some ((.normal, s), ds, [])
  | .region _ ops draw, ds, s =>
    if draw then
      match effsA P E C ops ds ops.toList s with
      | some (es, s', ds', cs) => if tmpsApart ops && effsApart es (loudPairs ops) then some ((.normal, s'), ds', cs) else none
      | none => none
    else (runA P E C ops ds ops.toList s).map fun x => ((.normal, x.1), x.2)
  | .seq a b, ds, s =>
    match evA E C fuel a ds s with
    | some ((.normal, s'), ds1, c1) =>
      match evA E C fuel b ds1 s' with
      | some (r, ds2, c2) => some (r, ds2, c1 ++ c2)
      | none => none
    | r => r
  | .cond c a b, ds, s =>
    match condA ds s.tm c (evO E s.tm c) with
    | some (true, tm, ds1, c1) => (evA E C fuel a ds1 { s with tm := tm }).map fun x => (x.1, x.2.1, c1 ++ x.2.2)
    | some (false, tm, ds1, c1) => (evA E C fuel b ds1 { s with tm := tm }).map fun x => (x.1, x.2.1, c1 ++ x.2.2)
    | none => none
  | .block id c, ds, s =>
    match evA E C fuel c ds s with
    | some ((.exit id', s'), r) => if id' = id then some ((.normal, s'), r) else some ((.exit id', s'), r)
    | r => r
  | .loop c, ds, s => iterA (evA E C fuel c) fuel ds s
  | .exit id, ds, s => some ((.exit id, s), ds, [])
  | .ret, ds, s => some ((.ret, s), ds, [])
  | _, _, _ => none
end

def AllP : List Prop → Prop
  | [] => True
  | p :: l => p ∧ AllP l

theorem AllP_app {a b : List Prop} (h : AllP (a ++ b)) : AllP a ∧ AllP b := by
  induction a with
  | nil => exact ⟨trivial, h⟩
  | cons p a ih =>
    obtain ⟨h1, h2⟩ := h
    obtain ⟨h3, h4⟩ := ih h2
    exact ⟨⟨h1, h3⟩, h4⟩

section
variable {P : Program} {E : Env} {C : Oracle}

theorem tellT_same {tm : Nat → V} {t : Nat} {v : Bool} (h : tm t = .bool v) : tellT tm t v = tm := by
  funext u
  simp only [tellT]
  split
  · rename_i e; rw [e, h]
  · rfl

theorem wantA_ok {ds ds' : Ds} {key : Nat} {ops : Array Oper} {tm tm' : Nat → V} {o : Oper} {b : Bool} {cs : List Prop} (h : wantA ds key ops tm o = some (b, tm', ds', cs)) (hc : AllP cs) : want ops tm o = some b ∧ tm' = tm := by
  unfold wantA at h
  simp only [sb_eq] at h
  unfold want
  split at h
  · rename_i hg; simp only [Option.some.injEq, Prod.mk.injEq] at h; rw [hg]; simp [← h.1, h.2.1]
  · rename_i j w hg
    rw [hg]
    simp only
    split at h
    · rename_i t ht
      rw [ht]
      simp only
      split at h
      · rename_i x hx
        rw [hx]
        simp only
        split at h
        · split at h
          · simp only [Option.some.injEq, Prod.mk.injEq] at h
            obtain ⟨rfl, rfl, _, rfl⟩ := h
            have e := hc.1
            subst e
            exact ⟨rfl, tellT_same hx⟩
          · simp only [Option.some.injEq, Prod.mk.injEq] at h; rw [h.1]; exact ⟨rfl, h.2.1.symm⟩
        · simp only [Option.some.injEq, Prod.mk.injEq] at h; rw [h.1]; exact ⟨rfl, h.2.1.symm⟩
      · rename_i hx; simp only [Option.some.injEq, Prod.mk.injEq] at h; rw [hx]; simp [← h.1, h.2.1]
      · cases h
    · cases h

theorem coreA_ok {ds ds' : Ds} {key : Nat} {ρ : Operand → V} {t g : Nat} {o : Oper} {ob : Id → Option Ob} {r : Res} {l : List Id} {cs : List Prop} (h : coreA P E C ds key ρ t g o ob = some (r, l, ds', cs)) (hc : AllP cs) :
    (core P E C ρ t g o).run ob = some (r, l) := by
  have plain : ∀ (ds : Ds), ((core P E C ρ t g o).run ob).map (fun x => (x.1, x.2, ds, ([] : List Prop))) = some (r, l, ds', cs) → (core P E C ρ t g o).run ob = some (r, l) := by
    intro ds h
    simp only [Option.map_eq_some_iff, Prod.mk.injEq] at h
    obtain ⟨⟨r', l'⟩, h1, rfl, rfl, _⟩ := h
    exact h1
  unfold coreA at h
  split at h
  · split at h
    · simp only [Option.some.injEq, Prod.mk.injEq] at h
      obtain ⟨rfl, rfl, _, rfl⟩ := h
      exact hc.1
    · exact plain _ h
  · split at h
    · split at h
      · rename_i l1 p1 ho
        simp only [Option.some.injEq, Prod.mk.injEq] at h
        obtain ⟨rfl, rfl, _, rfl⟩ := h
        exact opIs_ok P ho hc.1
      · cases h
    · exact plain _ h
  · split at h
    · split at h
      · rename_i f as ho
        split at h
        · rename_i q lq hq
          simp only [Option.map_eq_some_iff, Prod.mk.injEq] at h
          obtain ⟨⟨r', l'⟩, h1, rfl, rfl, _, rfl⟩ := h
          rw [core_pre P ho hq hc.1]
          exact h1
        · cases h
      · cases h
    · exact plain _ h
  · exact plain _ h

theorem effA_ok {ds ds' : Ds} {ops : Array Oper} {o : Oper} {s s1 : St} {e : Eff} {cs : List Prop} (h : effA P E C ds ops o s = some (e, s1, ds', cs)) (hc : AllP cs) : effOf P E C ops o s = some e ∧ s1 = s := by
  unfold effA at h
  unfold effOf
  split at h
  · cases h
  · rename_i hd
    rw [if_neg hd]
    split at h
    · cases h
    · rename_i tm1 ds1 cs1 hw
      simp only [Option.some.injEq, Prod.mk.injEq] at h
      obtain ⟨rfl, rfl, _, rfl⟩ := h
      obtain ⟨w1, rfl⟩ := wantA_ok hw hc
      rw [w1]
      exact ⟨rfl, rfl⟩
    · rename_i tm1 ds1 cs1 hw
      split at h
      · cases h
      · rename_i r l ds2 cs2 hr
        split at h
        · cases h
        · rename_i hn
          simp only [Option.some.injEq, Prod.mk.injEq] at h
          obtain ⟨rfl, rfl, _, rfl⟩ := h
          obtain ⟨c1, c2⟩ := AllP_app hc
          obtain ⟨w1, rfl⟩ := wantA_ok hw c1
          rw [w1]
          simp only
          rw [coreA_ok hr c2]
          simp only
          rw [if_neg hn]
          exact ⟨rfl, trivial⟩

theorem runA_ok {ops : Array Oper} : ∀ {l : List Oper} {ds ds' : Ds} {s s' : St} {cs : List Prop}, runA P E C ops ds l s = some (s', ds', cs) → AllP cs → runOps P E C ops l s = some s'
  | [], ds, ds', s, s', cs, h, _ => by simp only [runA, Option.some.injEq, Prod.mk.injEq] at h; simp [runOps, h.1]
  | o :: l, ds, ds', s, s', cs, h, hc => by
    simp only [runA] at h
    split at h
    · cases h
    · rename_i e s1 ds1 c1 he
      split at h
      · cases h
      · rename_i s2 ds2 c2 hr
        simp only [Option.some.injEq, Prod.mk.injEq] at h
        obtain ⟨rfl, _, rfl⟩ := h
        obtain ⟨q1, q2⟩ := AllP_app hc
        obtain ⟨k1, rfl⟩ := effA_ok he q1
        simp only [runOps, k1]
        exact runA_ok hr q2

theorem effsA_ok {ops : Array Oper} : ∀ {l : List Oper} {ds ds' : Ds} {s s' : St} {es : List Eff} {cs : List Prop}, effsA P E C ops ds l s = some (es, s', ds', cs) → AllP cs → effs P E C ops l s = some (es, s')
  | [], ds, ds', s, s', es, cs, h, _ => by simp only [effsA, Option.some.injEq, Prod.mk.injEq] at h; simp [effs, h.1, h.2.1]
  | o :: l, ds, ds', s, s', es, cs, h, hc => by
    simp only [effsA] at h
    split at h
    · cases h
    · rename_i e s1 ds1 c1 he
      split at h
      · cases h
      · rename_i es2 s2 ds2 c2 hr
        simp only [Option.some.injEq, Prod.mk.injEq] at h
        obtain ⟨rfl, rfl, _, rfl⟩ := h
        obtain ⟨q1, q2⟩ := AllP_app hc
        obtain ⟨k1, rfl⟩ := effA_ok he q1
        simp only [effs, k1, effsA_ok hr q2]

theorem iterA_ok {f : Ds → St → Option ((Ex × St) × Ds × List Prop)} {f' : St → Option (Ex × St)} (hf : ∀ ds s r ds' cs, f ds s = some (r, ds', cs) → AllP cs → f' s = some r) :
    ∀ (k : Nat) (ds : Ds) (s : St) (r : Ex × St) (ds' : Ds) (cs : List Prop), iterA f k ds s = some (r, ds', cs) → AllP cs → iter f' k s = some r
  | 0, ds, s, r, ds', cs, h, _ => by simp [iterA] at h
  | k + 1, ds, s, r, ds', cs, h, hc => by
    simp only [iterA] at h
    simp only [iter]
    split at h
    · rename_i s1 ds1 c1 h1
      split at h
      · rename_i r2 ds2 c2 h2
        simp only [Option.some.injEq, Prod.mk.injEq] at h
        obtain ⟨rfl, _, rfl⟩ := h
        obtain ⟨q1, q2⟩ := AllP_app hc
        rw [hf _ _ _ _ _ h1 q1]
        exact iterA_ok hf k _ _ _ _ _ h2 q2
      · cases h
    · rename_i hne
      rw [hf _ _ _ _ _ h hc]
      obtain ⟨e, s1⟩ := r
      cases e with
      | normal => exact absurd h (hne _ _ _)
      | exit id => rfl
      | ret => rfl

theorem condA_ok {ds ds' : Ds} {tm tm' : Nat → V} {c : Operand} {b : Bool} {cs : List Prop} (h : condA ds tm c (evO E tm c) = some (b, tm', ds', cs)) (hc : AllP cs) : evO E tm c = .bool b ∧ tm' = tm := by
  generalize hv : evO E tm c = v at h
  unfold condA at h
  simp only [sb_eq] at h
  split at h
  · split at h
    · split at h
      · simp only [Option.some.injEq, Prod.mk.injEq] at h
        obtain ⟨rfl, rfl, _, rfl⟩ := h
        have e := hc.1
        subst e
        exact ⟨rfl, tellT_same hv⟩
      · simp only [Option.some.injEq, Prod.mk.injEq] at h; rw [h.1]; exact ⟨rfl, h.2.1.symm⟩
    · simp only [Option.some.injEq, Prod.mk.injEq] at h; rw [h.1]; exact ⟨rfl, h.2.1.symm⟩
  · simp only [Option.some.injEq, Prod.mk.injEq] at h; rw [h.1]; exact ⟨rfl, h.2.1.symm⟩
  · cases h

theorem evA_ok {fuel : Nat} : ∀ (c : Code) (ds ds' : Ds) (s : St) (r : Ex × St) (cs : List Prop), evA P E C fuel c ds s = some (r, ds', cs) → AllP cs → evC P E C fuel c s = some r
  | .skip, ds, ds', s, r, cs, h, _ => by simp only [evA, Option.some.injEq, Prod.mk.injEq] at h; simp [evC, ← h.1]
  | .label _, ds, ds', s, r, cs, h, _ => by simp only [evA, Option.some.injEq, Prod.mk.injEq] at h; simp [evC, ← h.1]
  | .exit _, ds, ds', s, r, cs, h, _ => by simp only [evA, Option.some.injEq, Prod.mk.injEq] at h; simp [evC, ← h.1]
  | .ret, ds, ds', s, r, cs, h, _ => by simp only [evA, Option.some.injEq, Prod.mk.injEq] at h; simp [evC, ← h.1]
  | .region _ ops draw, ds, ds', s, r, cs, h, hc => by
    simp only [evA] at h
    simp only [evC]
    split at h
    · rename_i hd
      rw [if_pos hd]
      split at h
      · rename_i es s1 ds1 c1 h1
        split at h
        · rename_i ha
          simp only [Option.some.injEq, Prod.mk.injEq] at h
          obtain ⟨rfl, _, rfl⟩ := h
          rw [effsA_ok h1 hc]
          simp only
          rw [if_pos ha]
        · cases h
      · cases h
    · rename_i hd
      rw [if_neg hd]
      simp only [Option.map_eq_some_iff, Prod.mk.injEq] at h
      obtain ⟨⟨s1, ds1, c1⟩, h1, rfl, rfl, rfl⟩ := h
      rw [runA_ok h1 hc]
      rfl
  | .seq a b, ds, ds', s, r, cs, h, hc => by
    simp only [evA] at h
    simp only [evC]
    split at h
    · rename_i s1 ds1 c1 h1
      split at h
      · rename_i r2 ds2 c2 h2
        simp only [Option.some.injEq, Prod.mk.injEq] at h
        obtain ⟨rfl, _, rfl⟩ := h
        obtain ⟨q1, q2⟩ := AllP_app hc
        rw [evA_ok a _ _ _ _ _ h1 q1]
        exact evA_ok b _ _ _ _ _ h2 q2
      · cases h
    · rename_i hne
      rw [evA_ok a _ _ _ _ _ h hc]
      obtain ⟨e, s1⟩ := r
      cases e with
      | normal => exact absurd h (hne _ _ _)
      | exit id => rfl
      | ret => rfl
  | .cond c a b, ds, ds', s, r, cs, h, hc => by
    simp only [evA] at h
    simp only [evC]
    split at h
    · rename_i tm1 ds1 c1 h1
      simp only [Option.map_eq_some_iff, Prod.mk.injEq] at h
      obtain ⟨⟨r2, ds2, c2⟩, h2, rfl, _, rfl⟩ := h
      obtain ⟨q1, q2⟩ := AllP_app hc
      obtain ⟨k1, rfl⟩ := condA_ok h1 q1
      rw [k1]
      exact evA_ok a _ _ _ _ _ h2 q2
    · rename_i tm1 ds1 c1 h1
      simp only [Option.map_eq_some_iff, Prod.mk.injEq] at h
      obtain ⟨⟨r2, ds2, c2⟩, h2, rfl, _, rfl⟩ := h
      obtain ⟨q1, q2⟩ := AllP_app hc
      obtain ⟨k1, rfl⟩ := condA_ok h1 q1
      rw [k1]
      exact evA_ok b _ _ _ _ _ h2 q2
    · cases h
  | .block id c, ds, ds', s, r, cs, h, hc => by
    simp only [evA] at h
    simp only [evC]
    split at h
    · rename_i id' s1 x h1
      obtain ⟨ds1, c1⟩ := x
      split at h
      · rename_i hid
        simp only [Option.some.injEq, Prod.mk.injEq] at h
        obtain ⟨rfl, rfl, rfl⟩ := h
        rw [evA_ok c _ _ _ _ _ h1 hc]
        simp only
        rw [if_pos hid]
      · rename_i hid
        simp only [Option.some.injEq, Prod.mk.injEq] at h
        obtain ⟨rfl, rfl, rfl⟩ := h
        rw [evA_ok c _ _ _ _ _ h1 hc]
        simp only
        rw [if_neg hid]
    · rename_i hne
      rw [evA_ok c _ _ _ _ _ h hc]
      obtain ⟨e, s1⟩ := r
      cases e with
      | normal => rfl
      | exit id' => exact absurd h (hne _ _ _)
      | ret => rfl
  | .loop c, ds, ds', s, r, cs, h, hc => by
    simp only [evA] at h
    simp only [evC]
    exact iterA_ok (fun ds s r ds' cs h hc => evA_ok c ds ds' s r cs h hc) _ _ _ _ _ _ h hc
  | .rangeFunc .., ds, ds', s, r, cs, h, _ => by simp [evA] at h
  | .scope _, ds, ds', s, r, cs, h, _ => by simp [evA] at h
  | .goto _, ds, ds', s, r, cs, h, _ => by simp [evA] at h
end
end Go.Vi

/- Vi, part 25: pieces of code by the kernel, from a told state to a told state; summaries of functions. -/
namespace Go.Vi

/-- A value under other names, computed. -/
def rnF (f : Id → Option Id) : Nat → V → V
  | 0, _ => .junk
  | d + 1, v =>
    match v with
    | .lp a off => match f a with | some b => .lp b off | none => .junk
    | .sl a off n e x => match f a with | some b => .sl b off n e x | none => .junk
    | .agg l => .agg (l.map (rnF f d))
    | .tup l => .tup (l.map (rnF f d))
    | .fn g l => .fn g (l.map (rnF f d))
    | v => v

def rnOb (f : Id → Option Id) (d : Nat) (raw : Bool) (o : Ob) : Ob :=
  if raw then o else { ty := o.ty, cells := o.cells.map (rnF f d), fz := o.fz }

/-- What is told of a run. -/
def probe (f : Id → Option Id) (d : Nat) (ts : List Nat) (ids : List (Id × Bool)) : Option ((Ex × St) × Ds × List Prop) → Option (Ex × Nat × List V × List (Option Ob) × List Prop)
  | some ((e, s), [], cs) => some (e, s.n, ts.map fun t => rnF f d (s.tm t), ids.map fun p => (s.ob p.1).map (rnOb f d p.2), cs)
  | _ => none

theorem newOf_old {G : List (Id × Id)} {X : List (Nat × Nat)} (hG : fitG G X = true) {a b : Id} (h : newOf G a = some b) : oldOf G b = some a := by
  simp only [fitG, Bool.and_eq_true, List.all_eq_true] at hG
  obtain ⟨⟨⟨g1, g2⟩, g3⟩, g4⟩ := hG
  cases a with
  | ret k => simp [newOf] at h
  | bor k => simp only [newOf, Option.some.injEq] at h; subst h; rfl
  | own t k =>
    simp only [newOf] at h
    have hm := getI_mem h
    simp only [List.mem_map, Prod.mk.injEq] at hm
    obtain ⟨⟨x, y⟩, hm, rfl, rfl⟩ := hm
    have := g1 _ hm
    simp only at hm ⊢
    cases x with
    | own t' k' => simp only [oldOf]; exact getI_of_mem g2 hm
    | bor k' => simp [isOwnB] at this
    | ret k' => simp [isOwnB] at this

theorem rnF_RN {G : List (Id × Id)} {X : List (Nat × Nat)} (hG : fitG G X = true) : ∀ (d : Nat) (v : V), RN (oldOf G) v (rnF (newOf G) d v)
  | 0, v => .junk v
  | d + 1, v => by
    cases v with
    | lp a off =>
      simp only [rnF]
      split
      · rename_i b hb; exact .lp _ _ _ (newOf_old hG hb)
      · exact .junk _
    | sl a off n e x =>
      simp only [rnF]
      split
      · rename_i b hb; exact .sl _ _ _ _ _ _ (newOf_old hG hb)
      · exact .junk _
    | agg l =>
      simp only [rnF]
      refine .agg _ _ (by simp) fun k y y' hy hy' => ?_
      simp only [List.getElem?_map, hy, Option.map_some, Option.some.injEq] at hy'
      subst hy'
      exact rnF_RN hG d y
    | tup l =>
      simp only [rnF]
      refine .tup _ _ (by simp) fun k y y' hy hy' => ?_
      simp only [List.getElem?_map, hy, Option.map_some, Option.some.injEq] at hy'
      subst hy'
      exact rnF_RN hG d y
    | fn g l =>
      simp only [rnF]
      refine .fn _ _ _ (by simp) fun k y y' hy hy' => ?_
      simp only [List.getElem?_map, hy, Option.map_some, Option.some.injEq] at hy'
      subst hy'
      exact rnF_RN hG d y
    | junk => exact .junk _
    | int k n => exact .nv _ rfl
    | bool b => exact .nv _ rfl
    | str s => exact .nv _ rfl
    | nl => exact .nl
    | e0 => exact .e0
    | fs l => exact .nv _ rfl
    | fp c o => exact .nv _ rfl

/-- An object that is told: its new name, its old one, whether its cells are kept as they are, its new form. -/
abbrev OS := List (Id × Id × Bool × Ob)

def rawOk : OS → Prop
  | [] => True
  | q :: l => (if q.2.2.1 then V.nv.nvs q.2.2.2.cells = true else True) ∧ rawOk l

theorem rawOk_mem : ∀ {l : OS}, rawOk l → ∀ q ∈ l, q.2.2.1 = true → V.nv.nvs q.2.2.2.cells = true
  | [], _, q, h, _ => by simp at h
  | p :: l, h, q, hq, hr => by
    obtain ⟨h1, h2⟩ := h
    simp only [List.mem_cons] at hq
    rcases hq with rfl | hq
    · rw [if_pos hr] at h1; exact h1
    · exact rawOk_mem h2 q hq hr

section
variable {P : Program} {E : Env} {C : Oracle}

theorem probe_ev {fuel d n : Nat} {c : Code} {ds : Ds} {s : St} {e : Ex} {cs : List Prop} (G : List (Id × Id)) (X : List (Nat × Nat)) (T : List (Nat × V)) (O : OS)
    (h : probe (newOf G) d (T.map (·.1)) (O.map fun q => (q.2.1, q.2.2.1)) (evA P E C fuel c ds s) = some (e, n, T.map (·.2), O.map (fun q => some q.2.2.2), cs))
    (hG : (fitG G X && O.all fun q => decide (oldOf G q.1 = some q.2.1)) = true) (hraw : rawOk O) (hc : AllP cs) : ∃ s2, evC P E C fuel c s = some (e, s2) ∧ Weak P E s2 (mkSt n T X (O.map fun q => (q.1, q.2.2.2))) := by
  rw [Bool.and_eq_true] at hG
  obtain ⟨hG, hO⟩ := hG
  unfold probe at h
  split at h
  · rename_i e' s' cs' hev
    simp only [Option.some.injEq, Prod.mk.injEq] at h
    obtain ⟨rfl, hn, ht, ho, rfl⟩ := h
    refine ⟨s', evA_ok c _ _ _ _ _ hev hc, weak_mk hn hG (fun t v hm => ?_) (fun b o' hm => ?_)⟩
    · obtain ⟨i, hi, e⟩ := List.getElem_of_mem hm
      have h1 : (T.map (·.1))[i]? = some t := by simp [hi, e]
      have h2 : (T.map (·.2))[i]? = some v := by simp [hi, e]
      rw [← ht] at h2
      simp only [List.getElem?_map] at h1 h2
      have h3 : T[i]? = some (t, v) := by rw [List.getElem?_eq_getElem hi, e]
      rw [h3] at h2
      simp only [Option.map_some, Option.some.injEq] at h2
      rw [← h2]
      exact rnF_RN hG d _
    · obtain ⟨q, hq, e⟩ := List.mem_map.1 hm
      simp only [Prod.mk.injEq] at e
      obtain ⟨rfl, rfl⟩ := e
      have hold := of_decide_eq_true (List.all_eq_true.1 hO q hq)
      obtain ⟨i, hi, e⟩ := List.getElem_of_mem hq
      have h3 : O[i]? = some q := by rw [List.getElem?_eq_getElem hi, e]
      have h2 : (O.map fun q => some q.2.2.2)[i]? = some (some q.2.2.2) := by rw [List.getElem?_map, h3]; rfl
      rw [← ho] at h2
      simp only [List.getElem?_map, h3, Option.map_some, Option.some.injEq, Option.map_eq_some_iff] at h2
      obtain ⟨o, ho1, ho2⟩ := h2
      refine .inl ⟨q.2.1, o, hold, ho1, ?_⟩
      cases hr : q.2.2.1 with
      | true =>
        rw [hr] at ho2
        simp only [rnOb, if_true] at ho2
        subst ho2
        refine ⟨rfl, rfl, rfl, fun k y y' hy hy' => ?_⟩
        rw [hy] at hy'
        obtain rfl := Option.some.inj hy'
        exact .nv _ (nvs_get (rawOk_mem hraw q hq hr) _ _ hy)
      | false =>
        rw [hr] at ho2
        simp only [rnOb, Bool.false_eq_true, if_false] at ho2
        rw [← ho2]
        refine ⟨rfl, rfl, by simp, fun k y y' hy hy' => ?_⟩
        simp only [List.getElem?_map, hy, Option.map_some, Option.some.injEq] at hy'
        subst hy'
        exact rnF_RN hG d _
  · cases h

theorem tri_probe (hmix : P.follows .mixedOrders = true) (hC : OkC P E C) {fuel d n : Nat} {c : Code} {ds : Ds} {s : St} {e : Ex} {cs : List Prop} (G : List (Id × Id)) (X : List (Nat × Nat)) (T : List (Nat × V)) (O : OS)
    (h : probe (newOf G) d (T.map (·.1)) (O.map fun q => (q.2.1, q.2.2.1)) (evA P E C fuel c ds s) = some (e, n, T.map (·.2), O.map (fun q => some q.2.2.2), cs))
    (hG : (fitG G X && O.all fun q => decide (oldOf G q.1 = some q.2.1)) = true) (hraw : rawOk O) (hc : AllP cs) : Tri P E c s e (mkSt n T X (O.map fun q => (q.1, q.2.2.2))) := by
  obtain ⟨s2, h1, h2⟩ := probe_ev G X T O h hG hraw hc
  exact (Tri.ev hmix hC h1).post h2

theorem Tri.head (hmix : P.follows .mixedOrders = true) (hC : OkC P E C) {fuel : Nat} : ∀ (k : Nat) {c : Code} {s s2 s' : St} {e : Ex}, evC P E C fuel (headC k c) s = some (.normal, s2) → Tri P E (tailC k c) s2 e s' → Tri P E c s e s'
  | 0, c, s, s2, s', e, h, hk => by
    have : headC 0 c = .skip := by simp [headC]
    rw [this] at h
    simp only [evC, Option.some.injEq, Prod.mk.injEq, true_and] at h
    subst h
    simpa [tailC] using hk
  | k + 1, c, s, s2, s', e, h, hk => by
    cases c with
    | seq a b =>
      simp only [headC, evC] at h
      simp only [tailC] at hk
      split at h
      · rename_i sa ha
        exact (Tri.ev hmix hC ha).seq (Tri.head hmix hC k h hk)
      · rename_i hne
        exact absurd h (hne s2)
    | _ =>
      simp only [headC, evC, Option.some.injEq, Prod.mk.injEq, true_and] at h
      subst h
      simpa only [tailC] using hk

theorem Tri.head_out (hmix : P.follows .mixedOrders = true) (hC : OkC P E C) {fuel : Nat} : ∀ (k : Nat) {c : Code} {s s' : St} {e : Ex}, evC P E C fuel (headC k c) s = some (e, s') → e ≠ .normal → Tri P E c s e s'
  | 0, c, s, s', e, h, he => by
    have : headC 0 c = .skip := by simp [headC]
    rw [this] at h
    simp only [evC, Option.some.injEq, Prod.mk.injEq] at h
    exact absurd h.1.symm he
  | k + 1, c, s, s', e, h, he => by
    cases c with
    | seq a b =>
      simp only [headC, evC] at h
      split at h
      · rename_i sa ha
        exact (Tri.ev hmix hC ha).seq (Tri.head_out hmix hC k h he)
      · exact (Tri.ev hmix hC h).seq_out he
    | _ =>
      simp only [headC, evC, Option.some.injEq, Prod.mk.injEq] at h
      exact absurd h.1.symm he

/-- The first parts of a body by the kernel, then the rest. -/
theorem tri_head (hmix : P.follows .mixedOrders = true) (hC : OkC P E C) {fuel d n k : Nat} {c : Code} {ds : Ds} {s s' : St} {e : Ex} {cs : List Prop} (G : List (Id × Id)) (X : List (Nat × Nat)) (T : List (Nat × V)) (O : OS)
    (h : probe (newOf G) d (T.map (·.1)) (O.map fun q => (q.2.1, q.2.2.1)) (evA P E C fuel (headC k c) ds s) = some (.normal, n, T.map (·.2), O.map (fun q => some q.2.2.2), cs))
    (hG : (fitG G X && O.all fun q => decide (oldOf G q.1 = some q.2.1)) = true) (hraw : rawOk O) (hc : AllP cs) (hk : Tri P E (tailC k c) (mkSt n T X (O.map fun q => (q.1, q.2.2.2))) e s') : Tri P E c s e s' := by
  obtain ⟨s2, h1, h2⟩ := probe_ev G X T O h hG hraw hc
  exact Tri.head hmix hC k h1 (hk.pre h2)

/-- A body with decisions. -/
def bodyA (P : Program) (E : Env) (C : Oracle) (fuel : Nat) (ds : Ds) (f : FuncId) (args : List V) (bo : List Ob) : Option ((V × List Ob × List Ob) × List Prop) :=
  match P.funcs[f]? with
  | some fn =>
    match fn.body with
    | some c =>
      match evA P E C fuel c ds (start fn args bo) with
      | some ((.normal, s), [], cs) | some ((.ret, s), [], cs) => ((pack P (E.ownR f) fn bo.length s).run s.ob).map fun x => (x.1, cs)
      | _ => none
    | none => none
  | none => none

theorem bodyA_ok {fuel : Nat} {ds : Ds} {f : FuncId} {args : List V} {bo : List Ob} {r : V × List Ob × List Ob} {cs : List Prop} (h : bodyA P E C fuel ds f args bo = some (r, cs)) (hc : AllP cs) : body P E C fuel f args bo = some r := by
  unfold bodyA at h
  unfold body
  split at h
  · rename_i fn hfn
    rw [hfn]
    simp only
    split at h
    · rename_i c hb
      rw [hb]
      simp only
      split at h
      · rename_i s cs' hev
        simp only [Option.map_eq_some_iff, Prod.mk.injEq] at h
        obtain ⟨x, hx, rfl, rfl⟩ := h
        rw [evA_ok c _ _ _ _ _ hev hc]
        simp [hx]
      · rename_i s cs' hev
        simp only [Option.map_eq_some_iff, Prod.mk.injEq] at h
        obtain ⟨x, hx, rfl, rfl⟩ := h
        rw [evA_ok c _ _ _ _ _ hev hc]
        simp [hx]
      · cases h
    · cases h
  · cases h

theorem con_ev (hmix : P.follows .mixedOrders = true) (hC : OkC P E C) {fuel : Nat} {ds : Ds} {f : FuncId} {args : List V} {bo bo' ro : List Ob} {r : V} {cs : List Prop} (h : bodyA P E C fuel ds f args bo = some ((r, bo', ro), cs)) (hc : AllP cs) :
    Con P E f args bo r bo' ro := body_sound hmix hC (bodyA_ok h hc)

theorem con_all (hmix : P.follows .mixedOrders = true) (hC : OkC P E C) {fuel : Nat} {f : FuncId} {args : List V} {bo bo' ro : List Ob} {r : V}
    (h : ∃ r1 bo1 ro1 ds cs, bodyA P E C fuel ds f args bo = some ((r1, bo1, ro1), cs) ∧ AllP cs ∧ (r1 = r ∧ bo1 = bo' ∧ ro1 = ro)) : Con P E f args bo r bo' ro := by
  obtain ⟨_, _, _, ds, cs, h1, h2, rfl, rfl, rfl⟩ := h
  exact con_ev hmix hC h1 h2

/-- A summary: a function of the arguments and of what is lent. -/
abbrev Sum' := List V → List Ob → Option (V × List Ob × List Ob)

def SumOk (P : Program) (E : Env) (f : FuncId) (F : Sum') : Prop := ∀ args bo r bo' ro, F args bo = some (r, bo', ro) → Con P E f args bo r bo' ro

/-- The oracle of a table of summaries. -/
def tabO : List (FuncId × Sum') → Oracle
  | [], _, _, _ => none
  | (k, F) :: l, f, args, bo => if f = k then F args bo else tabO l f args bo

def TabOk (P : Program) (E : Env) : List (FuncId × Sum') → Prop
  | [] => True
  | p :: l => (SumOk P E p.1 p.2 ∧ callOk P p.1 = true) ∧ TabOk P E l

theorem tabO_ok : ∀ {l : List (FuncId × Sum')}, TabOk P E l → OkC P E (tabO l)
  | [], _ => fun f args bo r bo' ro h => by simp [tabO] at h
  | (k, F) :: l, h => fun f args bo r bo' ro hr => by
    obtain ⟨⟨h1, h2⟩, h3⟩ := h
    simp only [tabO] at hr
    split at hr
    · rename_i e; subst e; exact ⟨h1 _ _ _ _ _ hr, h2⟩
    · exact tabO_ok h3 f args bo r bo' ro hr

/-- The table, for the interpreter that also runs bodies. -/
def primT : List (FuncId × Sum') → FuncId → Option (Oracle → List V → List Ob → Option (V × List Ob × List Ob))
  | [], _ => none
  | (k, F) :: l, f => if f = k then some fun _ args bo => F args bo else primT l f

theorem primT_ok : ∀ {l : List (FuncId × Sum')}, TabOk P E l → ∀ f F, primT l f = some F → ∀ C, OkC P E C → ∀ args bo r bo' ro, F C args bo = some (r, bo', ro) → Con P E f args bo r bo' ro
  | [], _, f, F, h => by simp [primT] at h
  | (k, G) :: l, h, f, F, hF => by
    obtain ⟨⟨h1, _⟩, h3⟩ := h
    simp only [primT] at hF
    split at hF
    · rename_i e
      subst e
      obtain rfl := Option.some.inj hF
      intro C _ args bo r bo' ro hr
      exact h1 _ _ _ _ _ hr
    · exact primT_ok h3 f F hF
end
end Go.Vi

/- Vi, part 26: forgetting that also turns a slice of one's own into its contents. -/
namespace Go.Vi

theorem flatMap_at {es : Nat} : ∀ {l : List V} {j k : Nat} {x y : V}, (∀ x ∈ l, x.flat.length = es) → l[j]? = some x → x.flat[k]? = some y → (l.flatMap V.flat)[j * es + k]? = some y
  | [], j, k, x, y, _, h, _ => by simp at h
  | v :: l, 0, k, x, y, hl, h, hy => by
    simp only [List.getElem?_cons_zero, Option.some.injEq] at h
    subst h
    rw [List.flatMap_cons, Nat.zero_mul, Nat.zero_add, List.getElem?_append_left (List.getElem?_eq_some_iff.1 hy).1]
    exact hy
  | v :: l, j + 1, k, x, y, hl, h, hy => by
    simp only [List.getElem?_cons_succ] at h
    have hv : v.flat.length = es := hl v (by simp)
    rw [List.flatMap_cons, List.getElem?_append_right (by rw [hv, Nat.add_mul]; omega), hv, show (j + 1) * es + k - es = j * es + k by rw [Nat.add_mul]; omega]
    exact flatMap_at (fun x hx => hl x (by simp [hx])) h hy

/-- A slot under other names, or a slice of one's own as its contents. -/
inductive RF (P : Program) (ob : Id → Option Ob) (F : List Id) (g : Id → Option Id) : V → V → Prop
  | rn (v v') : RN g v v' → RF P ob F g v v'
  | fr (a n e x l o es) : a ∈ F → ob a = some o → szT P e = some es → l.length = n → l.flatMap V.flat = o.cells.take (n * es) → (∀ x ∈ l, x.flat.length = es) → V.nv.nvs o.cells = true → RF P ob F g (.sl a 0 n e x) (.fs l)
  | nl0 : RF P ob F g .nl (.fs [])
  | e00 : RF P ob F g .e0 (.fs [])
  | agg (l l') : l'.length = l.length → (∀ (k : Nat) y y', l[k]? = some y → l'[k]? = some y' → RF P ob F g y y') → RF P ob F g (.agg l) (.agg l')

theorem RF.mono {P : Program} {ob : Id → Option Ob} {F F' : List Id} {g : Id → Option Id} (hF : ∀ a ∈ F, a ∈ F') {v v' : V} (h : RF P ob F g v v') : RF P ob F' g v v' := by
  induction h with
  | rn v v' h => exact .rn _ _ h
  | fr a n e x l o es h1 h2 h3 h4 h5 h6 h7 => exact .fr _ _ _ _ _ _ _ (hF _ h1) h2 h3 h4 h5 h6 h7
  | nl0 => exact .nl0
  | e00 => exact .e00
  | agg l l' h _ ih => exact .agg _ _ h ih

open Classical in
/-- Less is said, under other names; the slices in F are no longer written. -/
theorem weak_fr {P : Program} {E : Env} {s : St} {n : Nat} {T : List (Nat × V)} {X : List (Nat × Nat)} {O : List (Id × Ob)} {G : List (Id × Id)} {F : List Id} (hn : s.n = n) (hG : fitG G X = true)
    (hF : ∀ a ∈ F, isOwnB a = true)
    (hT : ∀ t v, (t, v) ∈ T → RF P s.ob F (oldOf G) (s.tm t) v)
    (hO : ∀ b o', (b, o') ∈ O → (∃ a o, oldOf G b = some a ∧ a ∉ F ∧ s.ob a = some o ∧ o'.ty = o.ty ∧ o'.fz = o.fz ∧ o'.cells.length = o.cells.length ∧ ∀ (k : Nat) y y', o.cells[k]? = some y → o'.cells[k]? = some y' → RF P s.ob F (oldOf G) y y') ∨ (oldOf G b = none ∧ o'.cells = [])) :
    Weak P E s (mkSt n T X O) := by
  intro w0 H0 β0 hB H β a w hs
  let FB : Nat → Prop := fun b => ∃ a ∈ F, ∃ o sz, s.ob a = some o ∧ β a = some (b, sz)
  let H' : Hp := fun b => if FB b then w.heap[b]? else H b
  have hHH : H.le H' := by
    intro b x hx
    simp only [H']
    split
    · exact hs.rel.hp b x hx
    · exact hx
  have hsim : Sim P E w0 H0 β0 H' β { s with ob := fun id => if id ∈ F then none else s.ob id } a w := by
    refine ⟨hs.n, hs.df, fun t => (hs.tm t).mono hHH (Bt.le_refl _), hs.fr, ⟨fun id o ho => ?_, fun id id' o o' b sz sz' ho ho' => ?_, fun b x hx => ?_⟩, hs.dom, hs.hb, Hp.le_trans hs.hH hHH, fun b x hx h0 => ?_, hs.keep⟩
    · simp only at ho
      split at ho
      · cases ho
      · rename_i hid
        rcases hs.rel.obj _ _ ho with hreal | hg
        case inr => exact .inr hg
        obtain ⟨b, sz, arr, fr, p1, p2, p3, p4, p5, p6, p7⟩ := hreal.out
        refine .inl ⟨b, sz, arr, fr, p1, p2, p3, p4, p5.mono hHH (Bt.le_refl _), fun hz => hHH _ _ (p6 hz), fun hz => ?_⟩
        simp only [H']
        rw [if_neg]
        · exact p7 hz
        · rintro ⟨a', ha', o', sz', h1, h2⟩
          have := hs.rel.inj _ _ _ _ _ _ _ ho h1 p1 h2
          subst this
          exact hid ha'
    · simp only at ho ho'
      split at ho
      · cases ho
      · split at ho'
        · cases ho'
        · exact hs.rel.inj _ _ _ _ _ _ _ ho ho'
    · simp only [H'] at hx
      split at hx
      · exact hx
      · exact hs.rel.hp b x hx
    · simp only [H'] at hx
      split at hx
      · rename_i hfb
        obtain ⟨a', ha', o', sz', h1, h2⟩ := hfb
        rcases hs.dom _ _ h2 with h3 | ⟨t, k, _, h4, _⟩
        · obtain ⟨k, rfl⟩ := hB _ _ h3
          have := hF _ ha'
          simp [isOwnB] at this
        · exact h4
      · exact hs.hfr b x hx h0
  have key : ∀ {v0 v' : V}, RF P s.ob F (oldOf G) v0 v' → ∀ {u : Value}, RV P H' β v0 u → RV P H' (bOf G β) v' u := by
    intro v0 v' hr
    induction hr with
    | rn _ _ h => intro u hv; exact h.rv (fun _ _ _ h1 h2 => bOf_some h1 h2) hv
    | nl0 => intro u hv; cases hv; exact .fs0 ..
    | e00 => intro u hv; cases hv; exact .fs0 ..
    | agg l l' hl _ ih =>
      intro u hv
      cases hv with
      | agg _ _ cs hn hk =>
        refine .agg _ _ _ (by rw [hn, hl]) fun k y' u hy' hu => ?_
        have hlt : k < l.length := by rw [← hl]; exact (List.getElem?_eq_some_iff.1 hy').1
        exact ih k l[k] y' (List.getElem?_eq_getElem hlt) hy' (hk k _ u (List.getElem?_eq_getElem hlt) hu)
    | fr a' n e x l o es h1 h2 h3 h4 h5 h6 h7 =>
      intro u hv
      cases hv with
      | sl0 =>
        obtain rfl : l = [] := List.eq_nil_of_length_eq_zero h4
        exact .fs0 ..
      | sl _ _ _ _ _ _ b sz es' cap q1 q2 q3 q4 q5 =>
        rw [h3] at q2
        obtain rfl := Option.some.inj q2
        obtain ⟨b', sz', arr, fr, p1, p2, p3, p4, p5, p6, p7⟩ := (hs.rel.real h2 q1).out
        rw [q1] at p1
        simp only [Option.some.injEq, Prod.mk.injEq] at p1
        obtain ⟨rfl, rfl⟩ := p1
        have hHb : H' b = some (.cells arr o.ty fr) := by
          simp only [H']
          rw [if_pos ⟨a', h1, o, _, h2, q1⟩]
          exact p2
        subst h4
        refine .fs _ l b 0 es cap arr o.ty fr q4 hHb ?_ (fun j x hx => h6 x (List.mem_of_getElem? hx)) fun j x hx k y u hy hu => ?_
        · have := Nat.mul_le_mul_right es q4
          omega
        · have hc := flatMap_at h6 hx hy
          rw [h5, List.getElem?_take] at hc
          split at hc
          · have := p5.2 _ y u hc (by rw [← hu]; congr 1; omega)
            exact RV_nv (this.mono hHH (Bt.le_refl _)) (nvs_get h7 _ _ hc) noB
          · cases hc
  refine ⟨H', bOf G β, sim_mk hB hsim hn hG (fun t v hm => key (hT t v hm) ((hs.tm t).mono hHH (Bt.le_refl _))) (fun b o' hm => ?_)⟩
  · rcases hO b o' hm with ⟨a', o, h1, h2, h3, h4⟩ | h1
    · obtain ⟨h4, h5, h6, h7⟩ := h4
      exact .inl ⟨a', o, h1, by simp only; rw [if_neg h2]; exact h3, h4, h5, h6, fun k y y' hy hy' u hu => key (h7 k y y' hy hy') hu⟩
    · exact .inr h1
end Go.Vi

/- Vi, part 27: cutting a body; loops by induction. -/
namespace Go.Vi

/-- A part of a code: 0: the left part, or what is inside; 1: the right part. -/
def codeAt : List Nat → Code → Code
  | [], c => c
  | 0 :: p, .seq a _ => codeAt p a
  | _ :: p, .seq _ b => codeAt p b
  | 0 :: p, .cond _ a _ => codeAt p a
  | _ :: p, .cond _ _ b => codeAt p b
  | _ :: p, .block _ c => codeAt p c
  | _ :: p, .loop c => codeAt p c
  | _, _ => .skip

end Go.Vi

/- Vi, part 28: summaries by a reading of the arguments (not computed: callers tell the answer by a decision). -/
namespace Go.Vi

open Classical in
/-- The summary that answers 'out a' to the arguments 'enc a'. -/
noncomputable def sumOf {α : Type} (enc : α → List V × List Ob) (out : α → V × List Ob × List Ob) : Sum' := fun args bo => if h : ∃ a, enc a = (args, bo) then some (out (Classical.choose h)) else none

theorem sumOf_eq {α : Type} {enc : α → List V × List Ob} {out : α → V × List Ob × List Ob} (hinj : ∀ a b, enc a = enc b → out a = out b) (a : α) : sumOf enc out (enc a).1 (enc a).2 = some (out a) := by
  unfold sumOf
  have h : ∃ b, enc b = ((enc a).1, (enc a).2) := ⟨a, rfl⟩
  rw [dif_pos h]
  exact congrArg some (hinj _ _ (Classical.choose_spec h))

theorem sumOf_ok {P : Program} {E : Env} {f : FuncId} {α : Type} {enc : α → List V × List Ob} {out : α → V × List Ob × List Ob}
    (h : ∀ a, Con P E f (enc a).1 (enc a).2 (out a).1 (out a).2.1 (out a).2.2) : SumOk P E f (sumOf enc out) := by
  intro args bo r bo' ro hr
  unfold sumOf at hr
  split at hr
  · rename_i hx
    have e := Classical.choose_spec hx
    have hc := h (Classical.choose hx)
    simp only [Option.some.injEq] at hr
    rw [hr, e] at hc
    exact hc
  · cases hr
end Go.Vi
