/- Vi, part 6: slice expressions; what lies in a slice; append. -/
import Derived.Test.YtbiifkfehfapkaaDoorVi5
import Derived.Laws.Slices
import Derived.Laws.Append
set_option linter.unusedVariables false
set_option linter.unusedSimpArgs false
namespace Go.Vi
section
variable {P : Program} {H : Hp} {β : Bt} {ob : Id → Option Ob} {w : World}

/-! ### runs of look-ups -/
theorem Rd.run_pure {α : Type} {a : α} {r : α × List Id} (h : (Rd.pure a).run ob = some r) : r = (a, []) := by
  simp only [Rd.run, Option.some.injEq] at h; exact h.symm

theorem Rd.run_look {α : Type} {id : Id} {k : Ob → Rd α} {a : α} {l : List Id} (h : (Rd.look id k).run ob = some (a, l)) : ∃ o l', ob id = some o ∧ (k o).run ob = some (a, l') ∧ l = id :: l' := by
  simp only [Rd.run] at h
  cases ho : ob id with
  | none => simp [ho] at h
  | some o =>
    simp only [ho] at h
    cases hk : (k o).run ob with
    | none => simp [hk] at h
    | some r =>
      obtain ⟨a', l'⟩ := r
      simp only [hk, Option.some.injEq, Prod.mk.injEq] at h
      exact ⟨o, l', rfl, by rw [hk, h.1], h.2.symm⟩

theorem Rd.run_bind {α γ : Type} {m : Rd α} {f : α → Rd γ} {c : γ} {l : List Id} (h : (m.bind f).run ob = some (c, l)) : ∃ a l1 l2, m.run ob = some (a, l1) ∧ (f a).run ob = some (c, l2) ∧ l = l1 ++ l2 := by
  induction m generalizing l with
  | pure a => exact ⟨a, [], l, rfl, h, rfl⟩
  | fail => simp [Rd.bind, Rd.run] at h
  | look id k ih =>
    simp only [Rd.bind] at h
    obtain ⟨o, l', h1, h2, rfl⟩ := Rd.run_look h
    obtain ⟨a, l1, l2, h3, h4, rfl⟩ := ih o h2
    exact ⟨a, id :: l1, l2, by simp [Rd.run, h1, h3], h4, rfl⟩

theorem Rd.run_opt {α : Type} {x : Option α} {a : α} {l : List Id} (h : (opt x).run ob = some (a, l)) : x = some a ∧ l = [] := by
  cases x with
  | none => simp [opt, Rd.run] at h
  | some b => simp [opt, Rd.run] at h; exact ⟨by rw [h.1], h.2⟩

theorem Rd.run_fail {α : Type} {r : α × List Id} (h : (Rd.fail : Rd α).run ob = some r) : False := by simp [Rd.run] at h

/-! ### slice expressions -/
def OV (P : Program) (H : Hp) (β : Bt) : Option V → Option Value → Prop
  | none, none => True
  | some v, some a => RV P H β v a
  | _, _ => False

theorem OV_map {ρ : Operand → V} {ρ' : Operand → Value} (h : ∀ x, RV P H β (ρ x) (ρ' x)) (x : Option Operand) : OV P H β (x.map ρ) (x.map ρ') := by
  cases x with
  | none => trivial
  | some x => exact h x

theorem sliceBounds_ok {n cap : Nat} {lo hi mx : Option V} {lo' hi' mx' : Option Value} {l h : Nat} {m : Option Nat} (hl : OV P H β lo lo') (hh : OV P H β hi hi') (hm : OV P H β mx mx')
    (hb : vBounds n lo hi mx = some (l, h, m)) (hc : n ≤ cap) (isSlice : Bool) (w : World) :
    (Instr.sliceBounds isSlice n cap lo' hi' mx').run P w = .ok (l, h, m.getD cap) w ∧ l ≤ h ∧ h ≤ n ∧ ∀ m0, m = some m0 → h ≤ m0 ∧ m0 ≤ n := by
  unfold vBounds at hb
  have key : ∀ (lo hi : Option V) (lo' hi' : Option Value) (hI lI : Int), OV P H β lo lo' → OV P H β hi hi' → (match hi with | some v => asI v | none => some (n : Int)) = some hI → (match lo with | some v => asI v | none => some 0) = some lI → True := fun _ _ _ _ _ _ _ _ _ _ => trivial
  cases mx with
  | none =>
    cases mx' with
    | some => simp [OV] at hm
    | none =>
      simp only at hb
      split at hb
      · rename_i hI lI e1 e2
        split at hb
        · rename_i hcond
          obtain ⟨c1, c2, c3⟩ := hcond
          simp only [Option.some.injEq, Prod.mk.injEq] at hb
          obtain ⟨rfl, rfl, rfl⟩ := hb
          refine ⟨?_, by omega, by omega, fun m0 h => by simp at h⟩
          cases hi with
          | none =>
            cases hi' with
            | some => simp [OV] at hh
            | none =>
              simp only [Option.some.injEq] at e1
              subst e1
              cases lo with
              | none =>
                cases lo' with
                | some => simp [OV] at hl
                | none =>
                  simp only [Option.some.injEq] at e2; subst e2
                  simp [Instr.sliceBounds]
              | some v =>
                cases lo' with
                | none => simp [OV] at hl
                | some a =>
                  obtain ⟨k, rfl⟩ := asI_val hl e2
                  simp [Instr.sliceBounds, run_sliceBound w k lI n .sliceB c1 (by omega)]
          | some vh =>
            cases hi' with
            | none => simp [OV] at hh
            | some ah =>
              obtain ⟨kh, rfl⟩ := asI_val hh e1
              have r1 := fun code => run_sliceBound (P := P) w kh hI cap code (by omega) (by omega)
              have r1' := r1 (if isSlice then BoundsCode.sliceAcap else BoundsCode.sliceAlen)
              cases lo with
              | none =>
                cases lo' with
                | some => simp [OV] at hl
                | none =>
                  simp only [Option.some.injEq] at e2; subst e2
                  simp [Instr.sliceBounds, r1]
              | some v =>
                cases lo' with
                | none => simp [OV] at hl
                | some a =>
                  obtain ⟨k, rfl⟩ := asI_val hl e2
                  have r2 := run_sliceBound (P := P) w k lI hI.toNat .sliceB c1 (by omega)
                  simp [Instr.sliceBounds, r1, r2]
        · simp at hb
      · simp at hb
  | some vm =>
    cases mx' with
    | none => simp [OV] at hm
    | some am =>
      cases hmi : asI vm with
      | none => simp [hmi] at hb
      | some mI =>
        obtain ⟨km, rfl⟩ := asI_val hm hmi
        simp only [hmi, Option.map_some] at hb
        split at hb
        · rename_i hI lI e1 e2
          split at hb
          · rename_i hcond
            obtain ⟨c1, c2, c3⟩ := hcond
            split at hb
            · rename_i hcond2
              obtain ⟨c4, c5, c6⟩ := hcond2
              simp only [Option.some.injEq, Prod.mk.injEq] at hb
              obtain ⟨rfl, rfl, rfl⟩ := hb
              refine ⟨?_, by omega, by omega, fun m0 h => by simp at h; omega⟩
              have r0 := fun code => run_sliceBound (P := P) w km mI cap code (by omega) (by omega)
              cases hi with
              | none => simp at c6
              | some vh =>
                cases hi' with
                | none => simp [OV] at hh
                | some ah =>
                  obtain ⟨kh, rfl⟩ := asI_val hh e1
                  have r1 := fun code => run_sliceBound (P := P) w kh hI mI.toNat code (by omega) (by omega)
                  cases lo with
                  | none =>
                    cases lo' with
                    | some => simp [OV] at hl
                    | none =>
                      simp only [Option.some.injEq] at e2; subst e2
                      simp [Instr.sliceBounds, r0, r1]
                  | some v =>
                    cases lo' with
                    | none => simp [OV] at hl
                    | some a =>
                      obtain ⟨k, rfl⟩ := asI_val hl e2
                      have r2 := fun code => run_sliceBound (P := P) w k lI hI.toNat code c1 (by omega)
                      simp [Instr.sliceBounds, r0, r1, r2]
            · simp at hb
          · simp at hb
        · simp at hb

theorem vSlice_sound (hr : Rel P H β ob w) {t : TypeId} {x v : V} {a : Value} {lo hi mx : Option V} {lo' hi' mx' : Option Value} {rd : List Id} (hx : RV P H β x a)
    (hl : OV P H β lo lo') (hh : OV P H β hi hi') (hm : OV P H β mx mx') (h : (vSlice P t x lo hi mx).run ob = some (v, rd)) (w' : World) :
    ∃ u, (Instr.sliceAt t a lo' hi' mx').run P w' = .ok u w' ∧ RV P H β v u := by
  unfold vSlice at h
  cases hu : P.underlying t with
  | none => simp [hu, Rd.run] at h
  | some d =>
    simp only [hu] at h
    split at h
    · -- a string
      rename_i s e1
      simp only [Option.some.injEq] at e1; subst e1
      cases hx
      split at h
      · rename_i l hI _ hb
        obtain ⟨b1, b2, b3, b4⟩ := sliceBounds_ok (mx := none) (mx' := none) hl hh trivial hb (Nat.le_refl _) false w'
        cases mx' with
        | some => simp [OV] at hm
        | none =>
          have := Rd.run_pure h; simp only [Prod.mk.injEq] at this; obtain ⟨rfl, rfl⟩ := this
          exact ⟨_, by simp [Instr.sliceAt, Instr.slice, run_underlying hu, b1], .str ..⟩
      · exact (Rd.run_fail h).elim
    · -- an array's address
      rename_i n e id off e1
      simp only [Option.some.injEq] at e1; subst e1
      split at h
      · rename_i sz l hI m hz hb
        obtain ⟨o, l', ho, h2, rfl⟩ := Rd.run_look h
        obtain ⟨b1, b2, b3, b4⟩ := sliceBounds_ok hl hh hm hb (Nat.le_refl _) false w'
        split at h2
        · exact (Rd.run_fail h2).elim
        · rename_i hle
          simp only [Bool.not_eq_true', decide_eq_false_iff_not, Decidable.not_not] at hle
          cases hx with
          | lp _ _ _ b sz' hβ =>
            have hrun : (Instr.sliceAt t (.pointer (some ⟨b, off, none⟩)) lo' hi' mx').run P w' = .ok (.slice (some (if m.getD n = l then ⟨b, off, none⟩ else ⟨b, off + l * sz, none⟩)) (hI - l) (m.getD n - l)) w' := by
              simp [Instr.sliceAt, run_underlying hu, Instr.sureAddr, b1, run_sizeOf hz, add_none]
            have hmn : hI ≤ m.getD n ∧ m.getD n ≤ n := by
              cases m with
              | none => simp; exact b3
              | some m0 => simpa using b4 m0 rfl
            split at h2
            · rename_i hlm
              have := Rd.run_pure h2; simp only [Prod.mk.injEq] at this; obtain ⟨rfl, rfl⟩ := this
              refine ⟨_, hrun, ?_⟩
              have e1 : hI - l = 0 := by omega
              have e2 : m.getD n - l = 0 := by omega
              rw [e1, e2]; exact .e0 ..
            · rename_i hlm
              have := Rd.run_pure h2; simp only [Prod.mk.injEq] at this; obtain ⟨rfl, rfl⟩ := this
              refine ⟨_, hrun, ?_⟩
              rw [if_neg (fun e => hlm e.symm)]
              obtain ⟨b', sz'', arr, fr, q1, q2, q3, q4, q5, q6, q7⟩ := (hr.obj _ _ ho).out
              rw [hβ] at q1; cases q1
              refine .sl _ _ _ _ _ _ b sz' sz _ hβ hz ?_ (by omega) (fun hx => by simp at hx; omega)
              have hq := q5.1
              have : l * sz + (m.getD n - l) * sz ≤ n * sz := by rw [← Nat.add_mul]; exact Nat.mul_le_mul_right _ (by omega)
              omega
      · exact (Rd.run_fail h).elim
    · -- a slice with a name
      rename_i e id off n e' ex e1
      simp only [Option.some.injEq] at e1; subst e1
      split at h
      · rename_i sz l hI m hz hb
        split at h
        · exact (Rd.run_fail h).elim
        · rename_i he
          simp only [Bool.not_eq_true', beq_eq_false_iff_ne, ne_eq, Decidable.not_not] at he
          subst he
          cases hx with
          | sl _ _ _ _ _ _ b sz' es cap hβ hes hcap hnc hxx =>
            rw [hz] at hes; cases hes
            obtain ⟨b1, b2, b3, b4⟩ := sliceBounds_ok hl hh hm hb hnc true w'
            have hrun : (Instr.sliceAt t (.slice (some ⟨b, off, none⟩) n cap) lo' hi' mx').run P w' = .ok (.slice (if m.getD cap = l then some ⟨b, off, none⟩ else some ⟨b, off + l * sz, none⟩) (hI - l) (m.getD cap - l)) w' := by
              simp [Instr.sliceAt, Instr.slice, run_underlying hu, b1, run_sizeOf hz, add_none]
            split at h
            · rename_i m0
              obtain ⟨c1, c2⟩ := b4 m0 rfl
              simp only [Option.getD_some] at hrun
              split at h
              · rename_i hlm
                have := Rd.run_pure h; simp only [Prod.mk.injEq] at this; obtain ⟨rfl, rfl⟩ := this
                refine ⟨_, hrun, ?_⟩
                have e1 : hI - l = 0 := by omega
                have e2 : m0 - l = 0 := by omega
                rw [e1, e2]; exact .e0 ..
              · rename_i hlm
                have := Rd.run_pure h; simp only [Prod.mk.injEq] at this; obtain ⟨rfl, rfl⟩ := this
                refine ⟨_, hrun, ?_⟩
                rw [if_neg (fun e => hlm e.symm)]
                refine .sl _ _ _ _ _ _ b sz' sz _ hβ hz ?_ (by omega) (fun hx => by simp at hx; omega)
                have : l * sz + (m0 - l) * sz ≤ cap * sz := by rw [← Nat.add_mul]; exact Nat.mul_le_mul_right _ (by omega)
                omega
            · simp only [Option.getD_none] at hrun
              split at h
              · rename_i hcond
                have := Rd.run_pure h; simp only [Prod.mk.injEq] at this; obtain ⟨rfl, rfl⟩ := this
                refine ⟨_, hrun, ?_⟩
                have hoff : (if cap = l then some (⟨b, off, none⟩ : Addr) else some ⟨b, off + l * sz, none⟩) = some ⟨b, off + l * sz, none⟩ := by
                  split
                  · rename_i hcl
                    obtain rfl : l = 0 := by omega
                    simp
                  · rfl
                rw [hoff]
                refine .sl _ _ _ _ _ _ b sz' sz _ hβ hz ?_ (by omega) (fun hx => by simp at hx; have := hxx hx.1; omega)
                have : l * sz + (cap - l) * sz ≤ cap * sz := by rw [← Nat.add_mul]; exact Nat.mul_le_mul_right _ (by omega)
                omega
              · rename_i hcond
                have := Rd.run_pure h; simp only [Prod.mk.injEq] at this; obtain ⟨rfl, rfl⟩ := this
                refine ⟨_, hrun, ?_⟩
                have e1 : hI - l = 0 := by omega
                rw [e1]; exact .fs0 ..
      · exact (Rd.run_fail h).elim
    · -- a slice by value
      rename_i e l0 e1
      simp only [Option.some.injEq] at e1; subst e1
      split at h
      · rename_i sz l hI m hz hb
        have hfin : ∀ (A : Option Addr) (n cap : Nat), n = l0.length → n ≤ cap → (Instr.sliceAt t (.slice A n cap) lo' hi' mx').run P w' = .ok (.slice (if m.getD cap = l then A else A.map (·.add (l * sz))) (hI - l) (m.getD cap - l)) w' ∧ l ≤ hI ∧ hI ≤ l0.length ∧ ∀ m0, m = some m0 → hI ≤ m0 ∧ m0 ≤ l0.length := by
          intro A n cap hn hc
          subst hn
          obtain ⟨b1, b2, b3, b4⟩ := sliceBounds_ok hl hh hm hb hc true w'
          exact ⟨by simp [Instr.sliceAt, Instr.slice, run_underlying hu, b1, run_sizeOf hz], b2, b3, b4⟩
        cases hx with
        | fs0 _ A cap =>
          obtain ⟨b1, b2, b3, b4⟩ := hfin A 0 cap rfl (by omega)
          refine ⟨_, b1, ?_⟩
          simp only [List.length_nil, Nat.le_zero] at b3
          subst b3
          obtain rfl : l = 0 := by omega
          split at h
          · rename_i hm0
            have := Rd.run_pure h; simp only [Prod.mk.injEq] at this; obtain ⟨rfl, rfl⟩ := this
            subst hm0
            simp only [Option.getD_some]
            exact .e0 ..
          · split at h
            · have := Rd.run_pure h; simp only [Prod.mk.injEq] at this; obtain ⟨rfl, rfl⟩ := this
              simp only [List.drop_nil, List.take_nil]
              exact .fs0 ..
            · exact (Rd.run_fail h).elim
        | fs _ _ b off es cap arr ty fr h1 h2 h3 h4 h5 =>
          obtain ⟨b1, b2, b3, b4⟩ := hfin (some ⟨b, off, none⟩) l0.length cap rfl h1
          refine ⟨_, b1, ?_⟩
          split at h
          · rename_i hm0
            have := Rd.run_pure h; simp only [Prod.mk.injEq] at this; obtain ⟨rfl, rfl⟩ := this
            subst hm0
            have := (b4 l rfl).1
            have e1 : hI - l = 0 := by omega
            simp only [Option.getD_some, e1, Nat.sub_self]
            exact .e0 ..
          · rename_i hm0
            split at h
            · rename_i hcond
              have := Rd.run_pure h; simp only [Prod.mk.injEq] at this; obtain ⟨rfl, rfl⟩ := this
              by_cases hlh : hI = l
              · have e1 : hI - l = 0 := by omega
                rw [e1]; simp only [List.take_zero]; exact .fs0 ..
              · have hmc : l < m.getD cap := by
                  cases m with
                  | none => simp; omega
                  | some m0 => have := b4 m0 rfl; simp; omega
                have hsz : l * sz = l * es := by
                  rcases hcond with rfl | h' | h'
                  · simp
                  · exact absurd h' hlh
                  · cases hq : l0[l]? with
                    | none => simp [hq] at h'
                    | some x =>
                      simp [hq] at h'
                      have := h4 _ _ hq
                      rw [this] at h'; rw [h']
                rw [if_neg (by omega)]
                simp only [Option.map_some, add_none, hsz]
                have hlen : ((l0.drop l).take (hI - l)).length = hI - l := by simp; omega
                have hmul : l * es + (hI - l) * es ≤ l0.length * es := by rw [← Nat.add_mul]; exact Nat.mul_le_mul_right _ (by omega)
                have hg : ∀ (j : Nat) (x : V), ((l0.drop l).take (hI - l))[j]? = some x → l0[l + j]? = some x := by
                  intro j x hj
                  simp only [List.getElem?_take, List.getElem?_drop] at hj
                  split at hj
                  · exact hj
                  · simp at hj
                have := RV.fs (P := P) (H := H) β ((l0.drop l).take (hI - l)) b (off + l * es) es (m.getD cap - l) arr ty fr (by rw [hlen]; cases m with | none => simp; omega | some m0 => have := b4 m0 rfl; simp; omega) h2
                  (by rw [hlen]; omega) (fun j x hj => h4 _ _ (hg j x hj)) (fun j x hj k y u hy hu => h5 _ _ (hg j x hj) k y u hy (by rw [← hu, Nat.add_mul]; congr 1; omega))
                rw [hlen] at this
                exact this
            · exact (Rd.run_fail h).elim
      · exact (Rd.run_fail h).elim
    · rename_i e e1
      simp only [Option.some.injEq] at e1; subst e1
      split at h
      · rename_i sz q hz hb
        obtain ⟨l, hI, m⟩ := q
        have := Rd.run_pure h; simp only [Prod.mk.injEq] at this; obtain ⟨rfl, rfl⟩ := this
        cases hx
        obtain ⟨b1, b2, b3, b4⟩ := sliceBounds_ok hl hh hm hb (Nat.le_refl 0) true w'
        refine ⟨_, by simp [Instr.sliceAt, Instr.slice, run_underlying hu, b1, run_sizeOf hz]; rfl, ?_⟩
        have e1 : hI - l = 0 := by omega
        have e2 : m.getD 0 - l = 0 := by
          cases m with
          | none => simp
          | some m0 => have := b4 m0 rfl; simp; omega
        rw [e1, e2]; exact .e0 ..
      · exact (Rd.run_fail h).elim
    · rename_i e e1
      simp only [Option.some.injEq] at e1; subst e1
      split at h
      · rename_i sz q hz hb
        obtain ⟨l, hI, m⟩ := q
        have := Rd.run_pure h; simp only [Prod.mk.injEq] at this; obtain ⟨rfl, rfl⟩ := this
        cases hx
        obtain ⟨b1, b2, b3, b4⟩ := sliceBounds_ok hl hh hm hb (Nat.le_refl 0) true w'
        refine ⟨_, by simp [Instr.sliceAt, Instr.slice, run_underlying hu, b1, run_sizeOf hz]; rfl, ?_⟩
        have e1 : hI - l = 0 := by omega
        have e2 : m.getD 0 - l = 0 := by
          cases m with
          | none => simp
          | some m0 => have := b4 m0 rfl; simp; omega
        rw [e1, e2]; exact .e0 ..
      · exact (Rd.run_fail h).elim
    · exact (Rd.run_fail h).elim
end
end Go.Vi
