/- Vi, part 6: slice expressions; what lies in a slice; append. -/
import Derived.Test.YtbnglnpgkcjlhaaDoorWa
import Derived.Laws.Slices
import Derived.Laws.Append
import Derived.Laws.IdiomStrings
import Derived.Laws.BytesArg
set_option linter.unusedVariables false
set_option linter.unusedSimpArgs false
namespace Go.Vi
section
variable {P : Program} {H : Hp} {β : Bt} {ob : Id → Option Ob} {w : World}

/-! ### runs of look-ups -/
theorem Rd.run_pure {α : Type} {a : α} {r : α × List Id} (h : (Rd.pure a).run ob = some r) : r = (a, []) := by
  simp only [Rd.run, Option.some.injEq] at h; exact h.symm

theorem Rd.run_look {α : Type} {id : Id} {k : Ob → Rd α} {a : α} {l : List Id} (h : (Rd.look id k).run ob = some (a, l)) : ∃ o l', ob id = some o ∧ (k o).run ob = some (a, l') ∧ l = id :: l' := by
  simp only [Rd.run] at h
  cases ho : ob id with
  | none => simp [ho] at h
  | some o =>
    simp only [ho] at h
    cases hk : (k o).run ob with
    | none => simp [hk] at h
    | some r =>
      obtain ⟨a', l'⟩ := r
      simp only [hk, Option.some.injEq, Prod.mk.injEq] at h
      exact ⟨o, l', rfl, by rw [hk, h.1], h.2.symm⟩

theorem Rd.run_bind {α γ : Type} {m : Rd α} {f : α → Rd γ} {c : γ} {l : List Id} (h : (m.bind f).run ob = some (c, l)) : ∃ a l1 l2, m.run ob = some (a, l1) ∧ (f a).run ob = some (c, l2) ∧ l = l1 ++ l2 := by
  induction m generalizing l with
  | pure a => exact ⟨a, [], l, rfl, h, rfl⟩
  | fail => simp [Rd.bind, Rd.run] at h
  | look id k ih =>
    simp only [Rd.bind] at h
    obtain ⟨o, l', h1, h2, rfl⟩ := Rd.run_look h
    obtain ⟨a, l1, l2, h3, h4, rfl⟩ := ih o h2
    exact ⟨a, id :: l1, l2, by simp [Rd.run, h1, h3], h4, rfl⟩

theorem Rd.run_opt {α : Type} {x : Option α} {a : α} {l : List Id} (h : (opt x).run ob = some (a, l)) : x = some a ∧ l = [] := by
  cases x with
  | none => simp [opt, Rd.run] at h
  | some b => simp [opt, Rd.run] at h; exact ⟨by rw [h.1], h.2⟩

theorem Rd.run_fail {α : Type} {r : α × List Id} (h : (Rd.fail : Rd α).run ob = some r) : False := by simp [Rd.run] at h

/-! ### slice expressions -/
def OV (P : Program) (H : Hp) (β : Bt) : Option V → Option Value → Prop
  | none, none => True
  | some v, some a => RV P H β v a
  | _, _ => False

theorem OV_map {ρ : Operand → V} {ρ' : Operand → Value} (h : ∀ x, RV P H β (ρ x) (ρ' x)) (x : Option Operand) : OV P H β (x.map ρ) (x.map ρ') := by
  cases x with
  | none => trivial
  | some x => exact h x

theorem sliceBounds_ok {n cap : Nat} {lo hi mx : Option V} {lo' hi' mx' : Option Value} {l h : Nat} {m : Option Nat} (hl : OV P H β lo lo') (hh : OV P H β hi hi') (hm : OV P H β mx mx')
    (hb : vBounds n lo hi mx = some (l, h, m)) (hc : n ≤ cap) (isSlice : Bool) (w : World) :
    (Instr.sliceBounds isSlice n cap lo' hi' mx').run P w = .ok (l, h, m.getD cap) w ∧ l ≤ h ∧ h ≤ n ∧ ∀ m0, m = some m0 → h ≤ m0 ∧ m0 ≤ n := by
  unfold vBounds at hb
  have key : ∀ (lo hi : Option V) (lo' hi' : Option Value) (hI lI : Int), OV P H β lo lo' → OV P H β hi hi' → (match hi with | some v => asI v | none => some (n : Int)) = some hI → (match lo with | some v => asI v | none => some 0) = some lI → True := fun _ _ _ _ _ _ _ _ _ _ => trivial
  cases mx with
  | none =>
    cases mx' with
    | some => simp [OV] at hm
    | none =>
      simp only at hb
      split at hb
      · rename_i hI lI e1 e2
        split at hb
        · rename_i hcond
          obtain ⟨c1, c2, c3⟩ := hcond
          simp only [Option.some.injEq, Prod.mk.injEq] at hb
          obtain ⟨rfl, rfl, rfl⟩ := hb
          refine ⟨?_, by omega, by omega, fun m0 h => by simp at h⟩
          cases hi with
          | none =>
            cases hi' with
            | some => simp [OV] at hh
            | none =>
              simp only [Option.some.injEq] at e1
              subst e1
              cases lo with
              | none =>
                cases lo' with
                | some => simp [OV] at hl
                | none =>
                  simp only [Option.some.injEq] at e2; subst e2
                  simp [Instr.sliceBounds]
              | some v =>
                cases lo' with
                | none => simp [OV] at hl
                | some a =>
                  obtain ⟨k, rfl⟩ := asI_val hl e2
                  simp [Instr.sliceBounds, run_sliceBound w k lI n .sliceB c1 (by omega)]
          | some vh =>
            cases hi' with
            | none => simp [OV] at hh
            | some ah =>
              obtain ⟨kh, rfl⟩ := asI_val hh e1
              have r1 := fun code => run_sliceBound (P := P) w kh hI cap code (by omega) (by omega)
              have r1' := r1 (if isSlice then BoundsCode.sliceAcap else BoundsCode.sliceAlen)
              cases lo with
              | none =>
                cases lo' with
                | some => simp [OV] at hl
                | none =>
                  simp only [Option.some.injEq] at e2; subst e2
                  simp [Instr.sliceBounds, r1]
              | some v =>
                cases lo' with
                | none => simp [OV] at hl
                | some a =>
                  obtain ⟨k, rfl⟩ := asI_val hl e2
                  have r2 := run_sliceBound (P := P) w k lI hI.toNat .sliceB c1 (by omega)
                  simp [Instr.sliceBounds, r1, r2]
        · simp at hb
      · simp at hb
  | some vm =>
    cases mx' with
    | none => simp [OV] at hm
    | some am =>
      cases hmi : asI vm with
      | none => simp [hmi] at hb
      | some mI =>
        obtain ⟨km, rfl⟩ := asI_val hm hmi
        simp only [hmi, Option.map_some] at hb
        split at hb
        · rename_i hI lI e1 e2
          split at hb
          · rename_i hcond
            obtain ⟨c1, c2, c3⟩ := hcond
            split at hb
            · rename_i hcond2
              obtain ⟨c4, c5, c6⟩ := hcond2
              simp only [Option.some.injEq, Prod.mk.injEq] at hb
              obtain ⟨rfl, rfl, rfl⟩ := hb
              refine ⟨?_, by omega, by omega, fun m0 h => by simp at h; omega⟩
              have r0 := fun code => run_sliceBound (P := P) w km mI cap code (by omega) (by omega)
              cases hi with
              | none => simp at c6
              | some vh =>
                cases hi' with
                | none => simp [OV] at hh
                | some ah =>
                  obtain ⟨kh, rfl⟩ := asI_val hh e1
                  have r1 := fun code => run_sliceBound (P := P) w kh hI mI.toNat code (by omega) (by omega)
                  cases lo with
                  | none =>
                    cases lo' with
                    | some => simp [OV] at hl
                    | none =>
                      simp only [Option.some.injEq] at e2; subst e2
                      simp [Instr.sliceBounds, r0, r1]
                  | some v =>
                    cases lo' with
                    | none => simp [OV] at hl
                    | some a =>
                      obtain ⟨k, rfl⟩ := asI_val hl e2
                      have r2 := fun code => run_sliceBound (P := P) w k lI hI.toNat code c1 (by omega)
                      simp [Instr.sliceBounds, r0, r1, r2]
            · simp at hb
          · simp at hb
        · simp at hb

theorem vSlice_sound (hr : Rel P H β ob w) {t : TypeId} {x v : V} {a : Value} {lo hi mx : Option V} {lo' hi' mx' : Option Value} {rd : List Id} (hx : RV P H β x a)
    (hl : OV P H β lo lo') (hh : OV P H β hi hi') (hm : OV P H β mx mx') (h : (vSlice P t x lo hi mx).run ob = some (v, rd)) (w' : World) :
    ∃ u, (Instr.sliceAt t a lo' hi' mx').run P w' = .ok u w' ∧ RV P H β v u := by
  unfold vSlice at h
  cases hu : P.underlying t with
  | none => simp [hu, Rd.run] at h
  | some d =>
    simp only [hu] at h
    split at h
    · -- a string
      rename_i s e1
      simp only [Option.some.injEq] at e1; subst e1
      cases hx
      split at h
      · rename_i l hI _ hb
        obtain ⟨b1, b2, b3, b4⟩ := sliceBounds_ok (mx := none) (mx' := none) hl hh trivial hb (Nat.le_refl _) false w'
        cases mx' with
        | some => simp [OV] at hm
        | none =>
          have := Rd.run_pure h; simp only [Prod.mk.injEq] at this; obtain ⟨rfl, rfl⟩ := this
          exact ⟨_, by simp [Instr.sliceAt, Instr.slice, run_underlying hu, b1], .str ..⟩
      · exact (Rd.run_fail h).elim
    · -- an array's address
      rename_i n e id off e1
      simp only [Option.some.injEq] at e1; subst e1
      split at h
      · rename_i sz l hI m hz hb
        obtain ⟨o, l', ho, h2, rfl⟩ := Rd.run_look h
        obtain ⟨b1, b2, b3, b4⟩ := sliceBounds_ok hl hh hm hb (Nat.le_refl _) false w'
        split at h2
        · exact (Rd.run_fail h2).elim
        · rename_i hle
          simp only [Bool.not_eq_true', decide_eq_false_iff_not, Decidable.not_not] at hle
          cases hx with
          | lp _ _ _ b sz' hβ =>
            have hrun : (Instr.sliceAt t (.pointer (some ⟨b, off, none⟩)) lo' hi' mx').run P w' = .ok (.slice (some (if m.getD n = l then ⟨b, off, none⟩ else ⟨b, off + l * sz, none⟩)) (hI - l) (m.getD n - l)) w' := by
              simp [Instr.sliceAt, run_underlying hu, Instr.sureAddr, b1, run_sizeOf hz, add_none]
            have hmn : hI ≤ m.getD n ∧ m.getD n ≤ n := by
              cases m with
              | none => simp; exact b3
              | some m0 => simpa using b4 m0 rfl
            split at h2
            · rename_i hlm
              have := Rd.run_pure h2; simp only [Prod.mk.injEq] at this; obtain ⟨rfl, rfl⟩ := this
              refine ⟨_, hrun, ?_⟩
              have e1 : hI - l = 0 := by omega
              have e2 : m.getD n - l = 0 := by omega
              rw [e1, e2]; exact .e0 ..
            · rename_i hlm
              have := Rd.run_pure h2; simp only [Prod.mk.injEq] at this; obtain ⟨rfl, rfl⟩ := this
              refine ⟨_, hrun, ?_⟩
              rw [if_neg (fun e => hlm e.symm)]
              obtain ⟨b', sz'', arr, fr, q1, q2, q3, q4, q5, q6, q7⟩ := (hr.real ho hβ).out
              rw [hβ] at q1; cases q1
              refine .sl _ _ _ _ _ _ b sz' sz _ hβ hz ?_ (by omega) (fun hx => by simp at hx; omega)
              have hq := q5.1
              have : l * sz + (m.getD n - l) * sz ≤ n * sz := by rw [← Nat.add_mul]; exact Nat.mul_le_mul_right _ (by omega)
              omega
      · exact (Rd.run_fail h).elim
    · -- a slice with a name
      rename_i e id off n e' ex e1
      simp only [Option.some.injEq] at e1; subst e1
      split at h
      · rename_i sz l hI m hz hb
        split at h
        · exact (Rd.run_fail h).elim
        · rename_i he
          simp only [Bool.not_eq_true', beq_eq_false_iff_ne, ne_eq, Decidable.not_not] at he
          subst he
          cases hx with
          | sl0 _ _ _ A =>
            obtain ⟨b1, b2, b3, b4⟩ := sliceBounds_ok hl hh hm hb (Nat.le_refl 0) true w'
            obtain rfl : hI = 0 := by omega
            obtain rfl : l = 0 := by omega
            have hrun : (Instr.sliceAt t (.slice A 0 0) lo' hi' mx').run P w' = .ok (.slice (if m.getD 0 = 0 then A else A.map (·.add (0 * sz))) 0 (m.getD 0)) w' := by
              simp [Instr.sliceAt, Instr.slice, run_underlying hu, b1, run_sizeOf hz]
            split at h
            · rename_i m0
              obtain ⟨c1, c2⟩ := b4 m0 rfl
              obtain rfl : m0 = 0 := by omega
              split at h
              · have := Rd.run_pure h; simp only [Prod.mk.injEq] at this; obtain ⟨rfl, rfl⟩ := this
                exact ⟨_, hrun, .e0 ..⟩
              · rename_i hlm; exact absurd rfl hlm
            · split at h
              · have := Rd.run_pure h; simp only [Prod.mk.injEq] at this; obtain ⟨rfl, rfl⟩ := this
                exact ⟨_, hrun, by simpa using RV.sl0 ..⟩
              · rename_i hcond; exact absurd (.inl rfl) hcond
          | sl _ _ _ _ _ _ b sz' es cap hβ hes hcap hnc hxx =>
            rw [hz] at hes; cases hes
            obtain ⟨b1, b2, b3, b4⟩ := sliceBounds_ok hl hh hm hb hnc true w'
            have hrun : (Instr.sliceAt t (.slice (some ⟨b, off, none⟩) n cap) lo' hi' mx').run P w' = .ok (.slice (if m.getD cap = l then some ⟨b, off, none⟩ else some ⟨b, off + l * sz, none⟩) (hI - l) (m.getD cap - l)) w' := by
              simp [Instr.sliceAt, Instr.slice, run_underlying hu, b1, run_sizeOf hz, add_none]
            split at h
            · rename_i m0
              obtain ⟨c1, c2⟩ := b4 m0 rfl
              simp only [Option.getD_some] at hrun
              split at h
              · rename_i hlm
                have := Rd.run_pure h; simp only [Prod.mk.injEq] at this; obtain ⟨rfl, rfl⟩ := this
                refine ⟨_, hrun, ?_⟩
                have e1 : hI - l = 0 := by omega
                have e2 : m0 - l = 0 := by omega
                rw [e1, e2]; exact .e0 ..
              · rename_i hlm
                have := Rd.run_pure h; simp only [Prod.mk.injEq] at this; obtain ⟨rfl, rfl⟩ := this
                refine ⟨_, hrun, ?_⟩
                rw [if_neg (fun e => hlm e.symm)]
                refine .sl _ _ _ _ _ _ b sz' sz _ hβ hz ?_ (by omega) (fun hx => by simp at hx; omega)
                have : l * sz + (m0 - l) * sz ≤ cap * sz := by rw [← Nat.add_mul]; exact Nat.mul_le_mul_right _ (by omega)
                omega
            · simp only [Option.getD_none] at hrun
              split at h
              · rename_i hcond
                have := Rd.run_pure h; simp only [Prod.mk.injEq] at this; obtain ⟨rfl, rfl⟩ := this
                refine ⟨_, hrun, ?_⟩
                have hoff : (if cap = l then some (⟨b, off, none⟩ : Addr) else some ⟨b, off + l * sz, none⟩) = some ⟨b, off + l * sz, none⟩ := by
                  split
                  · rename_i hcl
                    obtain rfl : l = 0 := by omega
                    simp
                  · rfl
                rw [hoff]
                refine .sl _ _ _ _ _ _ b sz' sz _ hβ hz ?_ (by omega) (fun hx => by simp at hx; have := hxx hx.1; omega)
                have : l * sz + (cap - l) * sz ≤ cap * sz := by rw [← Nat.add_mul]; exact Nat.mul_le_mul_right _ (by omega)
                omega
              · rename_i hcond
                have := Rd.run_pure h; simp only [Prod.mk.injEq] at this; obtain ⟨rfl, rfl⟩ := this
                refine ⟨_, hrun, ?_⟩
                have e1 : hI - l = 0 := by omega
                rw [e1]; exact .fs0 ..
      · exact (Rd.run_fail h).elim
    · -- a slice by value
      rename_i e l0 e1
      simp only [Option.some.injEq] at e1; subst e1
      split at h
      · rename_i sz l hI m hz hb
        have hfin : ∀ (A : Option Addr) (n cap : Nat), n = l0.length → n ≤ cap → (Instr.sliceAt t (.slice A n cap) lo' hi' mx').run P w' = .ok (.slice (if m.getD cap = l then A else A.map (·.add (l * sz))) (hI - l) (m.getD cap - l)) w' ∧ l ≤ hI ∧ hI ≤ l0.length ∧ ∀ m0, m = some m0 → hI ≤ m0 ∧ m0 ≤ l0.length := by
          intro A n cap hn hc
          subst hn
          obtain ⟨b1, b2, b3, b4⟩ := sliceBounds_ok hl hh hm hb hc true w'
          exact ⟨by simp [Instr.sliceAt, Instr.slice, run_underlying hu, b1, run_sizeOf hz], b2, b3, b4⟩
        cases hx with
        | fs0 _ A cap =>
          obtain ⟨b1, b2, b3, b4⟩ := hfin A 0 cap rfl (by omega)
          refine ⟨_, b1, ?_⟩
          simp only [List.length_nil, Nat.le_zero] at b3
          subst b3
          obtain rfl : l = 0 := by omega
          split at h
          · rename_i hm0
            have := Rd.run_pure h; simp only [Prod.mk.injEq] at this; obtain ⟨rfl, rfl⟩ := this
            subst hm0
            simp only [Option.getD_some]
            exact .e0 ..
          · split at h
            · have := Rd.run_pure h; simp only [Prod.mk.injEq] at this; obtain ⟨rfl, rfl⟩ := this
              simp only [List.drop_nil, List.take_nil]
              exact .fs0 ..
            · exact (Rd.run_fail h).elim
        | fs _ _ b off es cap arr ty fr h1 h2 h3 h4 h5 =>
          obtain ⟨b1, b2, b3, b4⟩ := hfin (some ⟨b, off, none⟩) l0.length cap rfl h1
          refine ⟨_, b1, ?_⟩
          split at h
          · rename_i hm0
            have := Rd.run_pure h; simp only [Prod.mk.injEq] at this; obtain ⟨rfl, rfl⟩ := this
            subst hm0
            have := (b4 l rfl).1
            have e1 : hI - l = 0 := by omega
            simp only [Option.getD_some, e1, Nat.sub_self]
            exact .e0 ..
          · rename_i hm0
            split at h
            · rename_i hcond
              have := Rd.run_pure h; simp only [Prod.mk.injEq] at this; obtain ⟨rfl, rfl⟩ := this
              by_cases hlh : hI = l
              · have e1 : hI - l = 0 := by omega
                rw [e1]; simp only [List.take_zero]; exact .fs0 ..
              · have hmc : l < m.getD cap := by
                  cases m with
                  | none => simp; omega
                  | some m0 => have := b4 m0 rfl; simp; omega
                have hsz : l * sz = l * es := by
                  rcases hcond with rfl | h' | h'
                  · simp
                  · exact absurd h' hlh
                  · cases hq : l0[l]? with
                    | none => simp [hq] at h'
                    | some x =>
                      simp [hq] at h'
                      have := h4 _ _ hq
                      rw [this] at h'; rw [h']
                rw [if_neg (by omega)]
                simp only [Option.map_some, add_none, hsz]
                have hlen : ((l0.drop l).take (hI - l)).length = hI - l := by simp; omega
                have hmul : l * es + (hI - l) * es ≤ l0.length * es := by rw [← Nat.add_mul]; exact Nat.mul_le_mul_right _ (by omega)
                have hg : ∀ (j : Nat) (x : V), ((l0.drop l).take (hI - l))[j]? = some x → l0[l + j]? = some x := by
                  intro j x hj
                  simp only [List.getElem?_take, List.getElem?_drop] at hj
                  split at hj
                  · exact hj
                  · simp at hj
                have := RV.fs (P := P) (H := H) β ((l0.drop l).take (hI - l)) b (off + l * es) es (m.getD cap - l) arr ty fr (by rw [hlen]; cases m with | none => simp; omega | some m0 => have := b4 m0 rfl; simp; omega) h2
                  (by rw [hlen]; omega) (fun j x hj => h4 _ _ (hg j x hj)) (fun j x hj k y u hy hu => h5 _ _ (hg j x hj) k y u hy (by rw [← hu, Nat.add_mul]; congr 1; omega))
                rw [hlen] at this
                exact this
            · exact (Rd.run_fail h).elim
      · exact (Rd.run_fail h).elim
    · rename_i e e1
      simp only [Option.some.injEq] at e1; subst e1
      split at h
      · rename_i sz q hz hb
        obtain ⟨l, hI, m⟩ := q
        have := Rd.run_pure h; simp only [Prod.mk.injEq] at this; obtain ⟨rfl, rfl⟩ := this
        cases hx
        obtain ⟨b1, b2, b3, b4⟩ := sliceBounds_ok hl hh hm hb (Nat.le_refl 0) true w'
        refine ⟨_, by simp [Instr.sliceAt, Instr.slice, run_underlying hu, b1, run_sizeOf hz]; rfl, ?_⟩
        have e1 : hI - l = 0 := by omega
        have e2 : m.getD 0 - l = 0 := by
          cases m with
          | none => simp
          | some m0 => have := b4 m0 rfl; simp; omega
        rw [e1, e2]; exact .e0 ..
      · exact (Rd.run_fail h).elim
    · rename_i e e1
      simp only [Option.some.injEq] at e1; subst e1
      split at h
      · rename_i sz q hz hb
        obtain ⟨l, hI, m⟩ := q
        have := Rd.run_pure h; simp only [Prod.mk.injEq] at this; obtain ⟨rfl, rfl⟩ := this
        cases hx
        obtain ⟨b1, b2, b3, b4⟩ := sliceBounds_ok hl hh hm hb (Nat.le_refl 0) true w'
        refine ⟨_, by simp [Instr.sliceAt, Instr.slice, run_underlying hu, b1, run_sizeOf hz]; rfl, ?_⟩
        have e1 : hI - l = 0 := by omega
        have e2 : m.getD 0 - l = 0 := by
          cases m with
          | none => simp
          | some m0 => have := b4 m0 rfl; simp; omega
        rw [e1, e2]; exact .e0 ..
      · exact (Rd.run_fail h).elim
    · exact (Rd.run_fail h).elim
end
end Go.Vi

/- Vi, part 7: what lies in a slice; append. -/
set_option linter.unusedVariables false
set_option linter.unusedSimpArgs false
namespace Go.Vi
section
variable {P : Program} {H : Hp} {β : Bt} {ob : Id → Option Ob} {w : World} {t g : Nat}

theorem flatMap_len {f : V → List V} {es : Nat} : ∀ (l : List V), (∀ (j : Nat) (x : V), l[j]? = some x → (f x).length = es) → (l.flatMap f).length = l.length * es
  | [], _ => by simp
  | x :: l, h => by
    have h0 := h 0 x rfl
    have ih := flatMap_len l fun j x hx => h (j + 1) x (by simpa using hx)
    simp only [List.flatMap_cons, List.length_append, List.length_cons, h0, ih, Nat.add_mul]; omega

theorem flatMap_get {f : V → List V} {es : Nat} (he : 0 < es) : ∀ (l : List V) (k : Nat) (y : V), (∀ (j : Nat) (x : V), l[j]? = some x → (f x).length = es) → (l.flatMap f)[k]? = some y → ∃ x, l[k / es]? = some x ∧ (f x)[k % es]? = some y
  | [], k, y, _, h => by simp at h
  | x :: l, k, y, hl, h => by
    have h0 := hl 0 x rfl
    simp only [List.flatMap_cons, List.getElem?_append, h0] at h
    split at h
    · rename_i hk
      exact ⟨x, by rw [Nat.div_eq_of_lt hk]; rfl, by rw [Nat.mod_eq_of_lt hk]; exact h⟩
    · rename_i hk
      obtain ⟨z, h1, h2⟩ := flatMap_get he l (k - es) y (fun j x hx => hl (j + 1) x (by simpa using hx)) h
      refine ⟨z, ?_, by rw [Nat.mod_eq_sub_mod (by omega)]; exact h2⟩
      have : k / es = (k - es) / es + 1 := by rw [Nat.div_eq_sub_div he (by omega)]
      rw [this]; simpa using h1

def PW (P : Program) (H : Hp) (β : Bt) (xs : List V) (us : Array Value) : Prop := us.size = xs.length ∧ ∀ (k : Nat) (y : V) (u : Value), xs[k]? = some y → us[k]? = some u → RV P H β y u

theorem PW.CR {xs : List V} {us : Array Value} (h : PW P H β xs us) : CR P H β xs us 0 := ⟨by have := h.1; omega, fun k y u hy hu => h.2 k y u hy (by simpa using hu)⟩

theorem PW.one {xs : List V} {us : Array Value} (h : PW P H β xs us) (hl : xs.all V.leaf = true) : ∀ u ∈ us.toList, u.oneCell' = true := by
  intro u hu
  obtain ⟨k, hk, rfl⟩ := List.getElem_of_mem hu
  simp only [Array.length_toList] at hk
  have hkx : k < xs.length := by rw [← h.1]; exact hk
  simp only [List.all_eq_true] at hl
  exact one_of_leaf (h.2 k xs[k] us[k] (by simp [hkx]) (by simp [hk])) (hl _ (List.getElem_mem hkx))

/-- What a slice value and its cells are. -/
theorem slCells_sound (hr : Rel P H β ob w) {v : V} {u : Value} (hv : RV P H β v u) {xs : List V} {rd : List Id} {n sz : Nat} (h : (slCells P v).run ob = some (xs, rd)) (hn : slLen v = some n)
    (hsz : xs.length = n * sz) (hz : 0 < sz) :
    ∃ A cap us, u = .slice A n cap ∧ n ≤ cap ∧ PW P H β xs us ∧ ∀ w' : World, w'.heap = w.heap → (Builtin.firstCells sz n u).run P w' = .ok us w' := by
  cases v with
  | nl =>
    simp [slLen] at hn; subst hn
    have := Rd.run_pure h; simp only [Prod.mk.injEq] at this; obtain ⟨rfl, rfl⟩ := this
    cases hv
    exact ⟨none, 0, #[], rfl, by omega, ⟨rfl, fun k y u hy => by simp at hy⟩, fun w' _ => by simp [Builtin.firstCells]⟩
  | e0 =>
    simp [slLen] at hn; subst hn
    have := Rd.run_pure h; simp only [Prod.mk.injEq] at this; obtain ⟨rfl, rfl⟩ := this
    cases hv with
    | e0 _ A =>
      refine ⟨A, 0, #[], rfl, by omega, ⟨rfl, fun k y u hy => by simp at hy⟩, fun w' _ => ?_⟩
      cases A <;> simp [Builtin.firstCells, loadCells, loadCellsFrom]
  | fs l =>
    simp [slLen] at hn; subst hn
    simp only [slCells] at h
    split at h
    · rename_i hk
      have := Rd.run_pure h; simp only [Prod.mk.injEq] at this; obtain ⟨rfl, rfl⟩ := this
      cases hv with
      | fs0 _ A cap =>
        refine ⟨A, cap, #[], rfl, by simp, ⟨rfl, fun k y u hy => by simp at hy⟩, fun w' _ => ?_⟩
        cases A <;> simp [Builtin.firstCells, loadCells, loadCellsFrom]
      | fs _ _ b off es cap arr ty fr h1 h2 h3 h4 h5 =>
        rw [flatMap_len l h4] at hsz
        have hg := hr.hp _ _ h2
        by_cases hl0 : l.length = 0
        · obtain rfl : l = [] := List.eq_nil_of_length_eq_zero hl0
          exact ⟨_, cap, #[], rfl, by simp, ⟨rfl, fun k y u hy => by simp at hy⟩, fun w' _ => by simp [Builtin.firstCells, loadCells, loadCellsFrom]⟩
        · have he : es = sz := Nat.eq_of_mul_eq_mul_left (by omega) hsz
          subst he
          refine ⟨_, cap, arr.extract off (off + l.length * es), rfl, h1, ⟨by rw [flatMap_len l h4]; simp; omega, fun k y u hy hu => ?_⟩, fun w' hw => ?_⟩
          · obtain ⟨x, q1, q2⟩ := flatMap_get hz l k y h4 hy
            have hku : arr[off + k / es * es + k % es]? = some u := by
              have : off + k / es * es + k % es = off + k := by have := Nat.div_add_mod k es; rw [Nat.mul_comm] at this; omega
              rw [this]
              have hlt : k < l.length * es := by rw [← flatMap_len l h4]; exact (List.getElem?_eq_some_iff.1 hy).1
              rw [Array.getElem?_extract] at hu
              split at hu
              · exact hu
              · simp at hu
            exact (h5 _ _ q1 _ _ _ q2 hku).mono (Hp.le_refl _) (noB_le _)
          · have hg' : w'.heap[b]? = some (.cells arr ty fr) := by rw [hw]; exact hg
            simp [Builtin.firstCells, run_loadCells_at (P := P) hg' h3]
    · exact (Rd.run_fail h).elim
  | sl id off m e x =>
    simp [slLen] at hn; subst hn
    obtain ⟨o, l', ho, h2, rfl⟩ := Rd.run_look h
    cases hzz : szT P e with
    | none => simp [hzz, Rd.run] at h2
    | some sz' =>
      simp only [hzz] at h2
      split at h2
      · rename_i hle
        have := Rd.run_pure h2; simp only [Prod.mk.injEq] at this; obtain ⟨rfl, rfl⟩ := this
        cases hv with
        | sl0 _ _ _ A => exact ⟨A, 0, #[], rfl, Nat.le_refl 0, ⟨by simp, fun k y u hy => by simp at hy⟩, fun w' _ => by cases A <;> simp [Builtin.firstCells, loadCells, loadCellsFrom]⟩
        | sl _ _ _ _ _ _ b szb es cap hβ hes hcap hnc hxx =>
          rw [hzz] at hes; cases hes
          obtain ⟨b', sz'', arr, fr, q1, q2, q3, q4, q5, q6, q7⟩ := (hr.real ho hβ).out
          rw [hβ] at q1; cases q1
          have hcl : ((o.cells.drop off).take (m * sz')).length = m * sz' := by simp; omega
          by_cases hm : m = 0
          · subst hm
            refine ⟨_, cap, #[], rfl, hnc, ⟨by simp, fun k y u hy => by simp at hy⟩, fun w' hw => by simp [Builtin.firstCells, loadCells, loadCellsFrom]⟩
          · have he : sz' = sz := Nat.eq_of_mul_eq_mul_left (by omega) (hcl.symm.trans hsz)
            subst he
            have hx := (q5.sub off (m * sz') hle).extract
            rw [hcl] at hx
            simp only [Nat.zero_add] at hx
            have hasz : off + m * sz' ≤ arr.size := by have := q5.1; omega
            refine ⟨_, cap, arr.extract off (off + m * sz'), rfl, hnc, ⟨by rw [hcl]; simp; omega, fun k y u hy hu => hx.2 k y u hy (by simpa using hu)⟩, fun w' hw => ?_⟩
            have hg' : w'.heap[b]? = some (.cells arr o.ty fr) := by rw [hw]; exact q2
            simp [Builtin.firstCells, run_loadCells_at (P := P) hg' hasz]
      · exact (Rd.run_fail h2).elim
  | _ => simp [slCells, Rd.run] at h

theorem Rel.remove (hr : Rel P H β ob w) (id : Id) : Rel P H β (oset ob id none) w := by
  have key : ∀ i o, oset ob id none i = some o → ob i = some o := by
    intro i o h
    simp only [oset] at h
    split at h
    · simp at h
    · exact h
  exact ⟨fun i o h => hr.obj i o (key i o h), fun i i' o o' b sz sz' h h' => hr.inj i i' o o' b sz sz' (key _ _ h) (key _ _ h'), hr.hp⟩

theorem Rel.rename (hr : Rel P H β ob w) {id id' : Id} {o : Ob} (ho : ob id = some o) {b sz : Nat} (hb : β id = some (b, sz)) (hn : β id' = none) :
    Rel P H (bset β id' (b, sz)) (oset (oset ob id none) id' (some o)) w := by
  have hle := bset_le hn (b, sz)
  have key : ∀ i oo, oset (oset ob id none) id' (some o) i = some oo → (i = id' ∧ oo = o) ∨ (i ≠ id' ∧ i ≠ id ∧ ob i = some oo) := by
    intro i oo h
    simp only [oset] at h
    split at h
    · rename_i e; simp only [Option.some.injEq] at h; exact .inl ⟨e, h.symm⟩
    · rename_i e
      split at h
      · simp at h
      · rename_i e'; exact .inr ⟨e, e', h⟩
  refine ⟨fun i oo h => ?_, fun i i' o1 o2 b1 s1 s2 h h' hb1 hb2 => ?_, hr.hp⟩
  · rcases key _ _ h with ⟨rfl, rfl⟩ | ⟨e, e', h⟩
    · obtain ⟨b', sz', arr, fr, q1, q2, q3, q4, q5, q6, q7⟩ := (hr.real ho hb).out
      rw [hb] at q1; cases q1
      exact .inl ⟨b, sz, arr, fr, by simp [bset], q2, q3, q4, q5.mono (Hp.le_refl _) hle, q6, q7⟩
    · exact (hr.obj _ _ h).mono (Hp.le_refl _) hle (fun h0 => by unfold bset; rw [if_neg e]; exact h0) (fun _ _ _ => rfl) (fun _ _ _ => rfl)
  · rcases key _ _ h with ⟨rfl, rfl⟩ | ⟨e, e', h3⟩ <;> rcases key _ _ h' with ⟨rfl, rfl⟩ | ⟨f, f', h4⟩
    · rfl
    · simp only [bset, if_true, Option.some.injEq, Prod.mk.injEq] at hb1
      simp only [bset, if_neg f] at hb2
      obtain ⟨rfl, rfl⟩ := hb1
      exact absurd (hr.inj _ _ _ _ _ _ _ h4 ho hb2 hb) f'
    · simp only [bset, if_true, Option.some.injEq, Prod.mk.injEq] at hb2
      simp only [bset, if_neg e] at hb1
      obtain ⟨rfl, rfl⟩ := hb2
      exact absurd (hr.inj _ _ _ _ _ _ _ h3 ho hb1 hb) e'
    · simp only [bset, if_neg e] at hb1
      simp only [bset, if_neg f] at hb2
      exact hr.inj _ _ _ _ _ _ _ h3 h4 hb1 hb2

/-- An empty slice without room, under a new name. -/
theorem Out.ghost (hr : Rel P H β ob w) (hβ : β (.own t g) = none) {e ty : TypeId} {cells : List V} (hc : cells = []) (A : Option Addr) : Out P H β ob w t g ⟨.sl (.own t g) 0 0 e false, [(.own t g, some ⟨ty, cells, false⟩)], 1⟩ (.slice A 0 0) H β w := by
  refine ⟨Hp.le_refl _, Bt.le_refl _, fun id x h => .inl h, .sl0 .., ⟨fun i o ho => ?_, fun i i' o1 o2 b s1 s2 h h' hb1 hb2 => ?_, hr.hp⟩, Keep.refl _ _, fun b x h h' => by simp [h] at h'⟩
  · simp only [applyUp_cons, applyUp_nil, oset] at ho
    split at ho
    · rename_i e1
      simp only [Option.some.injEq] at ho
      subst ho; subst e1
      exact .inr ⟨hβ, hc⟩
    · exact hr.obj i o ho
  · have key : ∀ {i : Id} {o : Ob} {x : Nat × Nat}, applyUp ob [(.own t g, some ⟨ty, cells, false⟩)] i = some o → β i = some x → ob i = some o := by
      intro i o x ho hb
      simp only [applyUp_cons, applyUp_nil, oset] at ho
      split at ho
      · rename_i e1; subst e1; rw [hβ] at hb; cases hb
      · exact ho
    exact hr.inj _ _ _ _ _ _ _ (key h hb1) (key h' hb2) hb1 hb2

theorem Out.drop {id : Id} {v : V} {l : List (Id × Option Ob)} {nw : Nat} {u : Value} {H' : Hp} {β' : Bt} {w' : World} (h : Out P H β (oset ob id none) w t g ⟨v, l, nw⟩ u H' β' w') : Out P H β ob w t g ⟨v, (id, none) :: l, nw⟩ u H' β' w' :=
  ⟨h.hH, h.hb, h.nw, h.rv, h.rel, h.keep, h.hfr⟩

theorem Out.before {w1 : World} {r : Res} {u : Value} {H' : Hp} {β' : Bt} {w' : World} (h : Out P H β ob w1 t g r u H' β' w') (hw : Keep w w1 (fun b => ∃ id sz, β id = some (b, sz))) (hs : w1.heap.size = w.heap.size) : Out P H β ob w t g r u H' β' w' :=
  ⟨h.hH, h.hb, by rw [← hs]; exact h.nw, h.rv, h.rel, hw.trans h.keep, by rw [← hs]; exact h.hfr⟩

theorem CR_app {xs ys : List V} {as bs cs : Array Value} (h1 : PW P H β xs as) (h2 : PW P H β ys bs) : CR P H β (xs ++ ys) (as ++ bs ++ cs) 0 := by
  refine ⟨by simp; have := h1.1; have := h2.1; omega, fun k y u hy hu => ?_⟩
  simp only [Nat.zero_add] at hu
  rw [Array.append_assoc] at hu
  rw [List.getElem?_append] at hy
  split at hy
  · rename_i hk
    rw [Array.getElem?_append_left (by rw [h1.1]; exact hk)] at hu
    exact h1.2 k y u hy hu
  · rename_i hk
    rw [Array.getElem?_append_right (by rw [h1.1]; omega), h1.1] at hu
    have hlt : k - xs.length < ys.length := (List.getElem?_eq_some_iff.1 hy).1
    rw [Array.getElem?_append_left (by rw [h2.1]; exact hlt)] at hu
    exact h2.2 _ y u hy hu

/-- The part of append that makes a new block. -/
theorem append_grow {ty ty2 rt e : TypeId} {d2 : TypeDesc} {sz by_ : Nat} {z : V} (hu : P.underlying ty = some (.slice e)) (hu2 : P.underlying ty2 = some d2) (hd2 : ∀ k, d2 ≠ .int k)
    (hsz : szT P e = some sz) (hby : byT P e = some by_) (hz : zeroT P e = some z) (hzk : z.ok = true) (hzl : z.flat.length = sz) (hb0 : 0 < by_)
    {A : Option Addr} {m cap n : Nat} (hcap : cap < m + n) (hroom : (m + n) * by_ ≤ room) {b : Value} {as us : Array Value} {xs0 xs : List V}
    (has : PW P H β xs0 as) (hus : PW P H β xs us) (hl0 : xs0.length = m * sz) (hl1 : xs.length = n * sz)
    (hold : ∀ w' : World, w'.heap = w.heap → (Builtin.firstCells sz m (.slice A m cap)).run P w' = .ok as w')
    (hnew : ∀ w' : World, w'.heap = w.heap → (Builtin.firstCells sz n b).run P w' = .ok us w') (hlen : ∀ w', (Builtin.lenOf b).run P w' = .ok n w')
    (hr : Rel P H β ob w) (hβ : β (.own t g) = none) :
    ∃ u H' β' w', (Builtin.append_ #[ty, ty2] rt #[.slice A m cap, b]).run P w = .ok u w' ∧ Out P H β ob w t g ⟨.sl (.own t g) 0 (m + n) e false, [(.own t g, some ⟨e, xs0 ++ xs, false⟩)], 1⟩ u H' β' w' := by
  obtain ⟨zu, hzr, hzrv⟩ := run_zero (β := β) (H := H) hz w
  obtain ⟨hz1, hz2, hz3⟩ := flat_rel hzrv hzk
  unfold szT at hsz; unfold byT at hby
  cases hi : P.info? e with
  | none => simp [hi] at hsz
  | some i =>
    simp [hi] at hsz hby
    have hznot : ((match d2 with | .int _ => true | _ => false) = true) = False := by
      cases d2 <;> simp
      exact hd2 _ rfl
    have h48 : ¬ (Builtin.nextslicecap (m + n) cap * by_ > 281474976710656) := by
      have := growslice_fits (bytes := by_) hcap (by simpa [room] using hroom)
      omega
    have hzr' : ∀ w', (zeroValue e).run P w' = .ok zu w' := by
      intro w'
      simp only [zeroValue, typeInfo, Sem.run_bind, run_program, Result.andThen_ok, hi] at hzr ⊢
      cases hzz : i.zero with
      | none => simp [hzz] at hzr
      | some z' => simp [hzz] at hzr ⊢; exact hzr
    let q : Question := .appendCap (m + n) cap e
    let nc := q.cut (w.tape w.drawn q)
    have hnc : m + n ≤ nc := by simp only [nc, q, Question.cut]; omega
    let w1 : World := { w with drawn := w.drawn + 1 }
    have hw1 : w1.heap = w.heap := rfl
    let arr := as ++ us ++ Builtin.zeroCells zu.cells (nc - (m + n))
    have hasz : arr.size = nc * sz := by
      have h1 := has.1; have h2 := hus.1
      have h3 : (Builtin.zeroCells zu.cells (nc - (m + n))).size = (nc - (m + n)) * sz := by simp [Builtin.zeroCells, hz1, hzl]
      simp only [arr, Array.size_append, h1, h2, h3, hl0, hl1]
      rw [← Nat.add_mul, ← Nat.add_mul]; congr 1; omega
    have hr1 : Rel P H β ob w1 := hr.drew
    have hnew' := Out.new (t := t) (g := g) hr1 hβ (arr := arr) (ty := e) (fr := (0, 0)) (cells := xs0 ++ xs) (CR_app has hus) (frok_zero _)
      (v := .sl (.own t g) 0 (m + n) e false) (u := .slice (some ⟨w1.heap.size, 0, none⟩) (m + n) nc)
      (fun β' hle hβ' => .sl _ _ _ _ _ _ _ _ sz nc hβ' (by simp [szT, hi, hsz]) (by rw [hasz]; omega) hnc (by simp))
    refine ⟨.slice (some ⟨w1.heap.size, 0, none⟩) (m + n) nc, _, _, _, ?_, hnew'.before (Keep.drew _ _) rfl⟩
    have hmatch : (match d2 with | .int a => true | x => false) = false := by
      cases d2 <;> simp
      exact hd2 _ rfl
    have hq : q.forced = false := rfl
    have hneed : ¬ (m + n ≤ cap) := by omega
    simp [Builtin.append_, run_underlying hu, run_underlying hu2, sizeOf, typeInfo, hi, hsz, hby, hlen, hneed, Nat.ne_of_gt hb0]
    cases d2 <;> first | (exact absurd rfl (hd2 _)) | skip
    all_goals
      simp [hlen, hneed, Nat.ne_of_gt hb0, h48, Question.forced]
      rw [hold w.drew rfl, Result.andThen_ok, hnew w.drew rfl, Result.andThen_ok, hzr' w.drew, Result.andThen_ok]
      simp only [arr, Array.append_assoc]
      rfl

theorem CR_inplace {xs0 xs : List V} {arr : Array Value} {us : Array Value} (h : CR P H β xs0 arr 0) (hu : PW P H β xs us) (hle : xs0.length + xs.length ≤ arr.size) :
    CR P H β (xs0 ++ xs) (arr.toList.take xs0.length ++ us.toList ++ arr.toList.drop (xs0.length + us.toList.length)).toArray 0 := by
  refine ⟨by simp; have := hu.1; omega, fun k y u hy hu' => ?_⟩
  simp only [Nat.zero_add] at hu'
  have hu2 : (arr.toList.take xs0.length ++ us.toList ++ arr.toList.drop (xs0.length + us.toList.length))[k]? = some u := by simpa using hu'
  clear hu'
  rw [List.append_assoc, List.getElem?_append] at hu2
  rw [List.getElem?_append] at hy
  simp only [List.length_take, Array.length_toList, show min xs0.length arr.size = xs0.length by omega] at hu2
  split at hy
  · rename_i hk
    rw [if_pos hk] at hu2
    simp only [List.getElem?_take, hk, if_true] at hu2
    exact h.2 k y u hy (by simpa using hu2)
  · rename_i hk
    rw [if_neg hk, List.getElem?_append] at hu2
    have hlt : k - xs0.length < xs.length := (List.getElem?_eq_some_iff.1 hy).1
    rw [if_pos (by simp [hu.1]; exact hlt)] at hu2
    exact hu.2 _ y u hy (by simpa using hu2)

/-- append where there is room. -/
theorem append_fit {ty ty2 rt e : TypeId} {d2 : TypeDesc} {sz : Nat} (hu : P.underlying ty = some (.slice e)) (hu2 : P.underlying ty2 = some d2) (hd2 : ∀ k, d2 ≠ .int k) (hsz : szT P e = some sz)
    {A : Option Addr} {m cap n : Nat} (hcap : m + n ≤ cap) {b : Value} {us : Array Value} (hnew : (Builtin.firstCells sz n b).run P w = .ok us w) (hlen : ∀ w', (Builtin.lenOf b).run P w' = .ok n w') {w' : World}
    (hst : ∀ a, A = some a → (storeCells (a.add (m * sz)) us.toList).run P w = .ok () w') (hn : A = none → w' = w) :
    (Builtin.append_ #[ty, ty2] rt #[.slice A m cap, b]).run P w = .ok (.slice A (m + n) cap) w' := by
  unfold szT at hsz
  cases hi : P.info? e with
  | none => simp [hi] at hsz
  | some i =>
    simp [hi] at hsz
    unfold Builtin.append_
    simp only [List.getElem?_toArray, List.getElem?_cons_zero, List.getElem?_cons_succ, Sem.run_bind, run_underlying hu, Result.andThen_ok, sizeOf, typeInfo, run_program, hi, Sem.run_pure, hsz]
    rw [run_underlying hu2, Result.andThen_ok]
    cases d2 <;> first | (exact absurd rfl (hd2 _)) | skip
    all_goals
      simp only [Result.andThen_ok, Bool.false_eq_true, if_false, hlen, if_pos hcap, hnew, Bool.not_false, if_true]
      cases A with
      | none => simp [hn rfl, hlen, hcap, hnew]
      | some a => simp [hst a rfl, hlen, hcap, hnew]

set_option maxHeartbeats 4000000 in
/-- append. -/
theorem vAppend_sound {ty ty2 rt : TypeId} {d2 : TypeDesc} (hu2 : P.underlying ty2 = some d2) (hd2 : ∀ k, d2 ≠ .int k) (hr : Rel P H β ob w) (hβ : β (.own t g) = none)
    {s x : V} {a b : Value} (hs : RV P H β s a) (hx : RV P H β x b) {r : Res} {rd : List Id} (h : (vAppend P ty s x (.own t g)).run ob = some (r, rd)) :
    ∃ u H' β' w', (Builtin.append_ #[ty, ty2] rt #[a, b]).run P w = .ok u w' ∧ Out P H β ob w t g r u H' β' w' := by
  unfold vAppend at h
  split at h
  · rename_i e hu
    split at h
    · rename_i sz by_ z hsz hby hz
      obtain ⟨xs, l1, l2, hxs, ha1, _⟩ := Rd.run_bind h
      clear h
      obtain ⟨n, l3, l4, hn, h, _⟩ := Rd.run_bind ha1
      clear ha1
      obtain ⟨hn, _⟩ := Rd.run_opt hn
      split at h
      · exact (Rd.run_fail h).elim
      · rename_i hcond
        simp only [Bool.not_eq_true', Bool.not_eq_false, Bool.and_eq_true, beq_iff_eq, decide_eq_true_eq] at hcond
        obtain ⟨⟨⟨⟨⟨hleaf, hxl⟩, hb0⟩, hz0⟩, hzk⟩, hzl⟩ := hcond
        -- the second operand
        have hX : ∃ us, PW P H β xs us ∧ (∀ w' : World, w'.heap = w.heap → (Builtin.firstCells sz n b).run P w' = .ok us w') ∧ (∀ w', (Builtin.lenOf b).run P w' = .ok n w') := by
          cases x with
          | str sb =>
            cases hx
            have := Rd.run_pure hxs; simp only [Prod.mk.injEq] at this; obtain ⟨rfl, rfl⟩ := this
            simp only [Option.some.injEq] at hn; subst hn
            refine ⟨sb.data.map fun b => .int .u8 b.toNat, ⟨by simp [bytesV], fun k y u hy hu => ?_⟩, fun w' _ => ?_, fun w' => by simp [Builtin.lenOf]⟩
            · simp only [bytesV, List.getElem?_map, Array.getElem?_toList] at hy
              simp only [Array.getElem?_map] at hu
              cases hd : sb.data[k]? with
              | none => simp [hd] at hy
              | some c => simp [hd] at hy hu; subst hy; subst hu; exact .int ..
            · have : sb.extract 0 sb.size = sb := by simp
              simp [Builtin.firstCells, this]
          | junk | int _ _ | bool _ | agg _ | tup _ | lp _ _ | fp _ _ | fn _ _ => simp [slCells, Rd.run] at hxs
          | nl | e0 | fs _ | sl _ _ _ _ _ =>
            obtain ⟨A, cap, us, rfl, q1, q2, q3⟩ := slCells_sound hr hx hxs hn hxl hz0
            exact ⟨us, q2, q3, fun w' => by simp [Builtin.lenOf]⟩
        obtain ⟨us, hus, hnew, hlen⟩ := hX
        have hone := hus.one hleaf
        have hszi := hsz
        have hbyi := hby
        unfold szT at hszi; unfold byT at hbyi
        -- what is kept as it is
        have hsame : ∀ (A : Option Addr) (m cap : Nat), n = 0 → m ≤ cap → (Builtin.append_ #[ty, ty2] rt #[.slice A m cap, b]).run P w = .ok (.slice A m cap) w := by
          intro A m cap hn0 hmc
          subst hn0
          have hus0 : us = #[] := Array.eq_empty_of_size_eq_zero (by rw [hus.1, hxl]; simp)
          exact append_fit hu hu2 hd2 hsz (by omega) (hnew w rfl) hlen (fun a _ => by simp [hus0, storeCells]) (fun _ => rfl)
        cases s with
        | junk | int _ _ | bool _ | str _ | agg _ | tup _ | lp _ _ | fs _ | fp _ _ | fn _ _ => exact (Rd.run_fail h).elim
        | nl =>
          cases hs
          simp only at h
          by_cases hn0 : n = 0
          · split at h
            · have := Rd.run_pure h; simp only [Prod.mk.injEq] at this; obtain ⟨rfl, rfl⟩ := this
              have hxe : xs = [] := List.eq_nil_of_length_eq_zero (by rw [hxl, hn0]; omega)
              subst hn0
              exact ⟨_, H, β, w, hsame none 0 0 rfl (by omega), Out.ghost hr hβ hxe none⟩
            · exact (Rd.run_fail h).elim
          · split at h
            · rename_i hroom
              have := Rd.run_pure h; simp only [Prod.mk.injEq] at this; obtain ⟨rfl, rfl⟩ := this
              have := append_grow (rt := rt) hu hu2 hd2 hsz hby hz hzk hzl hb0 (A := none) (m := 0) (cap := 0) (n := n) (by omega) (by simpa using hroom) (as := #[]) (xs0 := []) ⟨rfl, fun k y u hy => by simp at hy⟩ hus (by simp) hxl
                (fun w' _ => by simp [Builtin.firstCells]) hnew hlen hr hβ
              simpa using this
            · exact (Rd.run_fail h).elim
        | e0 =>
          cases hs with
          | e0 _ A =>
          simp only at h
          by_cases hn0 : n = 0
          · split at h
            · have := Rd.run_pure h; simp only [Prod.mk.injEq] at this; obtain ⟨rfl, rfl⟩ := this
              have hxe : xs = [] := List.eq_nil_of_length_eq_zero (by rw [hxl, hn0]; omega)
              subst hn0
              exact ⟨_, H, β, w, hsame A 0 0 rfl (by omega), Out.ghost hr hβ hxe A⟩
            · exact (Rd.run_fail h).elim
          · split at h
            · rename_i hroom
              have := Rd.run_pure h; simp only [Prod.mk.injEq] at this; obtain ⟨rfl, rfl⟩ := this
              have := append_grow (rt := rt) hu hu2 hd2 hsz hby hz hzk hzl hb0 (A := A) (m := 0) (cap := 0) (n := n) (by omega) (by simpa using hroom) (as := #[]) (xs0 := []) ⟨rfl, fun k y u hy => by simp at hy⟩ hus (by simp) hxl
                (fun w' _ => by cases A <;> simp [Builtin.firstCells, loadCells, loadCellsFrom]) hnew hlen hr hβ
              simpa using this
            · exact (Rd.run_fail h).elim
        | sl id off m e' ex =>
          simp only at h
          obtain ⟨o, l', ho, h2, _⟩ := Rd.run_look h
          clear h
          split at h2
          · exact (Rd.run_fail h2).elim
          · rename_i hc2
            simp only [Bool.not_eq_true', Bool.not_eq_false, Bool.and_eq_true, beq_iff_eq, decide_eq_true_eq] at hc2
            obtain ⟨⟨rfl, hle⟩, hroom⟩ := hc2
            cases hs with
            | sl0 _ _ _ A =>
              simp only [Bool.false_eq_true, if_false] at h2
              split at h2
              · rename_i hc3
                simp only [Bool.and_eq_true, beq_iff_eq, Bool.not_eq_true'] at hc3
                obtain ⟨⟨⟨⟨_, htip⟩, hfz⟩, hown⟩, hoty⟩ := hc3
                have := Rd.run_pure h2; simp only [Prod.mk.injEq] at this; obtain ⟨rfl, rfl⟩ := this
                have hce : o.cells = [] := List.eq_nil_of_length_eq_zero (by omega)
                by_cases hn0 : n = 0
                · have hxe : xs = [] := List.eq_nil_of_length_eq_zero (by rw [hxl, hn0]; omega)
                  subst hn0
                  exact ⟨_, H, β, w, hsame A 0 0 rfl (by omega), (Out.ghost (hr.remove id) hβ (by rw [hce, hxe]; rfl) A).drop⟩
                · have := append_grow (rt := rt) (t := t) (g := g) (ob := oset ob id none) hu hu2 hd2 hsz hby hz hzk hzl hb0 (A := A) (m := 0) (cap := 0) (n := n) (by omega) (by simpa using hroom) (as := #[]) (xs0 := []) ⟨rfl, fun k y u hy => by simp at hy⟩ hus (by simp) hxl
                    (fun w' _ => by cases A <;> simp [Builtin.firstCells, loadCells, loadCellsFrom]) hnew hlen (hr.remove id) hβ
                  obtain ⟨u, H', β', w', r1, r2⟩ := this
                  refine ⟨u, H', β', w', r1, ?_⟩
                  rw [hoty, hce]
                  exact r2.drop
              · exact (Rd.run_fail h2).elim
            | sl _ _ _ _ _ _ bk szb es cap hβ' hes hcap hnc hxx =>
            rw [hsz] at hes; cases hes
            obtain ⟨b', sz'', arr, fr, q1, q2, q3, q4, q5, q6, q7⟩ := (hr.real ho hβ').out
            rw [hβ'] at q1; cases q1
            have hcl : ((o.cells.drop off).take (m * sz)).length = m * sz := by simp; omega
            have hasz : off + m * sz ≤ arr.size := by have := q5.1; omega
            have hx0 := (q5.sub off (m * sz) hle).extract
            rw [hcl] at hx0
            simp only [Nat.zero_add] at hx0
            have hpw : PW P H β ((o.cells.drop off).take (m * sz)) (arr.extract off (off + m * sz)) := ⟨by rw [hcl]; simp; omega, fun k y u hy hu => hx0.2 k y u hy (by simpa using hu)⟩
            have hold : ∀ w' : World, w'.heap = w.heap → (Builtin.firstCells sz m (.slice (some ⟨bk, off, none⟩) m cap)).run P w' = .ok (arr.extract off (off + m * sz)) w' := by
              intro w' hw
              have hg' : w'.heap[bk]? = some (.cells arr o.ty fr) := by rw [hw]; exact q2
              simp [Builtin.firstCells, run_loadCells_at (P := P) hg' hasz]
            split at h2
            · rename_i hex
              have hcm := hxx hex
              subst hcm
              split at h2
              · rename_i hn0
                have := Rd.run_pure h2; simp only [Prod.mk.injEq] at this; obtain ⟨rfl, rfl⟩ := this
                exact ⟨_, H, β, w, hsame _ _ _ hn0.1 (by omega), Out.val hr (.sl _ _ _ _ _ _ bk szb sz _ hβ' hsz hcap hnc hxx)⟩
              · rename_i hn0
                have := Rd.run_pure h2; simp only [Prod.mk.injEq] at this; obtain ⟨rfl, rfl⟩ := this
                by_cases hn1 : n = 0
                · have hm0 : cap = 0 := by omega
                  subst hn1; subst hm0
                  have hxe : xs = [] := List.eq_nil_of_length_eq_zero (by rw [hxl]; omega)
                  exact ⟨_, H, β, w, hsame _ 0 0 rfl (by omega), Out.ghost hr hβ (by rw [hxe]; simp) _⟩
                exact append_grow (rt := rt) hu hu2 hd2 hsz hby hz hzk hzl hb0 (A := some ⟨bk, off, none⟩) (by omega) hroom hpw hus hcl hxl hold hnew hlen hr hβ
            · rename_i hex
              split at h2
              · rename_i hc3
                simp only [Bool.and_eq_true, beq_iff_eq, Bool.not_eq_true'] at hc3
                obtain ⟨⟨⟨⟨rfl, htip⟩, hfz⟩, hown⟩, hoty⟩ := hc3
                have := Rd.run_pure h2; simp only [Prod.mk.injEq] at this; obtain ⟨rfl, rfl⟩ := this
                have htake : (o.cells.drop 0).take (m * sz) = o.cells := by simp [htip]
                by_cases hfit : m + n ≤ cap
                · -- in place
                  have hsb : o.cells.length + xs.length ≤ arr.size := by
                    have : m * sz + n * sz ≤ cap * sz := by rw [← Nat.add_mul]; exact Nat.mul_le_mul_right _ hfit
                    omega
                  have husl : us.toList.length = xs.length := by simpa using hus.1
                  have hcell := CR_inplace q5 hus hsb
                  have hs' : (arr.toList.take o.cells.length ++ us.toList ++ arr.toList.drop (o.cells.length + us.toList.length)).toArray.size = arr.size := by simp at husl ⊢; omega
                  obtain ⟨p1, p2⟩ := hr.set ho hfz hβ' q2 hs' hcell
                  have hren := p1.rename (id := id) (id' := .own t g) (o := ⟨o.ty, o.cells ++ xs, false⟩) (by simp [oset]) hβ' hβ
                  have hobe : oset (oset (oset ob id (some ⟨o.ty, o.cells ++ xs, false⟩)) id none) (.own t g) (some ⟨o.ty, o.cells ++ xs, false⟩) = applyUp ob [(id, none), (.own t g, some ⟨o.ty, o.cells ++ xs, false⟩)] := by
                    simp only [applyUp_cons, applyUp_nil]
                    funext y; simp only [oset]; split <;> (try rfl); split <;> rfl
                  rw [hobe] at hren
                  obtain ⟨t', g', rfl⟩ : ∃ t' g', id = .own t' g' := by cases id <;> simp [isOwn] at hown; exact ⟨_, _, rfl⟩
                  have hle' := bset_le hβ (bk, szb)
                  refine ⟨.slice (some ⟨bk, 0, none⟩) (m + n) cap, H, bset β (.own t g) (bk, szb), w.setRow bk _, ?_, Hp.le_refl _, hle', ?_, ?_, hren, p2, fun b x h h' => by simp [h] at h'⟩
                  · have hst := run_storeCells_fr (P := P) bk o.cells.length o.ty fr us.toList 0 arr w q2 (by rw [q3]; exact q4) (by simp at husl ⊢; omega) hone
                    refine append_fit hu hu2 hd2 hsz hfit (hnew w rfl) hlen (fun a ha => ?_) (fun h => by simp at h)
                    simp only [Option.some.injEq] at ha; subst ha
                    rw [add_none, Nat.zero_add, htip]; simpa using hst
                  · intro id x hx
                    unfold bset at hx
                    split at hx
                    · rename_i e1
                      simp only [Option.some.injEq] at hx
                      subst hx
                      have hlt := hr.lt ho hβ'
                      exact .inr ⟨0, by simp, by simpa using e1, by simpa using hlt, .inr ⟨t', g', szb, hβ'⟩⟩
                    · exact .inl hx
                  · refine .sl _ _ _ _ _ _ bk szb sz cap (by simp [bset]) hsz (by simpa using hcap) hfit (by simp)
                · -- a new block
                  rw [htake] at hpw
                  have := append_grow (rt := rt) (t := t) (g := g) (ob := oset ob id none) hu hu2 hd2 hsz hby hz hzk hzl hb0 (A := some ⟨bk, 0, none⟩) (m := m) (cap := cap) (n := n) (by omega) hroom hpw hus (by rw [← htip]) hxl hold hnew hlen (hr.remove id) hβ
                  obtain ⟨u, H', β', w', r1, r2⟩ := this
                  rw [← hoty] at r2
                  rw [hoty]
                  rw [hoty] at r2
                  exact ⟨u, H', β', w', r1, r2.drop⟩
              · exact (Rd.run_fail h2).elim
    · exact (Rd.run_fail h).elim
  · exact (Rd.run_fail h).elim
end
end Go.Vi

/- Vi, part 8: every operation that calls no function of Go. -/
set_option linter.unusedVariables false
set_option linter.unusedSimpArgs false
namespace Go.Vi
section
variable {P : Program} {H : Hp} {β : Bt} {ob : Id → Option Ob} {w : World} {t g : Nat}

/-- What an operation comes to that calls nothing. -/
def Done (P : Program) (H : Hp) (β : Bt) (ob : Id → Option Ob) (w : World) (t g : Nat) (r : Res) (s : Sem Next) : Prop :=
  ∃ u H' β' w', (s.run P w = .ok (.value u) w' ∨ (s.run P w = .ok .skip w' ∧ u = undef)) ∧ Out P H β ob w t g r u H' β' w'

theorem Done.val (hr : Rel P H β ob w) {s : Sem Value} {v : Option V} {r : Res} {l : List Id} (h : (Vi.val v).run ob = some (r, l)) (hs : ∀ v0, v = some v0 → ∃ u, s.run P w = .ok u w ∧ RV P H β v0 u) :
    Done P H β ob w t g r (do pure (.value (← s))) := by
  obtain ⟨v0, l1, l2, h1, h2, _⟩ := Rd.run_bind h
  obtain ⟨h1, _⟩ := Rd.run_opt h1
  obtain ⟨u, q1, q2⟩ := hs v0 h1
  have := Rd.run_pure h2; simp only [Prod.mk.injEq] at this; obtain ⟨rfl, rfl⟩ := this
  exact ⟨u, H, β, w, .inl (by simp [q1]), Out.val hr q2⟩

theorem Done.pure (hr : Rel P H β ob w) {s : Sem Value} {v : V} {r : Res} {l : List Id} (h : (Rd.pure (⟨v, [], 0⟩ : Res)).run ob = some (r, l)) {u : Value} (h1 : s.run P w = .ok u w) (h2 : RV P H β v u) :
    Done P H β ob w t g r (do pure (.value (← s))) := by
  have := Rd.run_pure h; simp only [Prod.mk.injEq] at this; obtain ⟨rfl, rfl⟩ := this
  exact ⟨u, H, β, w, .inl (by simp [h1]), Out.val hr h2⟩

theorem mkOb_sound (hr : Rel P H β ob w) (hβ : β (.own t g) = none) {e : TypeId} {v : V} {a : Value} (ha : RV P H β v a) {r : Res} {l : List Id} (h : (mkOb e v (.own t g)).run ob = some (r, l)) :
    ∃ H' β' w', (newVar e a).run P w = .ok ⟨w.heap.size, 0, none⟩ w' ∧ Out P H β ob w t g r (.pointer (some ⟨w.heap.size, 0, none⟩)) H' β' w' := by
  unfold mkOb at h
  split at h
  · rename_i hk
    have := Rd.run_pure h; simp only [Prod.mk.injEq] at this; obtain ⟨rfl, rfl⟩ := this
    obtain ⟨f1, f2, f3⟩ := flat_rel ha hk
    exact ⟨_, _, _, by simp [newVar, newRow], Out.new hr hβ f2 (frok_zero _) (ty := e) fun β' hle hb => .lp _ _ _ _ _ hb⟩
  · exact (Rd.run_fail h).elim

theorem RV_toList {ρ : Operand → V} {ρ' : Operand → Value} (hρ : ∀ x, RV P H β (ρ x) (ρ' x)) (xs : Array Operand) (k : Nat) (y : V) (u : Value) (hy : (xs.toList.map ρ)[k]? = some y) (hu : (xs.map ρ')[k]? = some u) : RV P H β y u := by
  simp only [List.getElem?_map, Array.getElem?_toList] at hy
  simp only [Array.getElem?_map] at hu
  cases hx : xs[k]? with
  | none => simp [hx] at hy
  | some x => simp [hx] at hy hu; subst hy; subst hu; exact hρ x

theorem PR_parts {ρ : Operand → V} {ρ' : Operand → Value} (hρ : ∀ x, RV P H β (ρ x) (ρ' x)) (parts : Array (Nat × Operand)) :
    PR P H β (parts.toList.map fun (i, x) => (i, ρ x)) (parts.map fun (i, x) => (i, ρ' x)).toList := by
  refine ⟨by simp, fun k x y hx hy => ?_⟩
  simp only [List.getElem?_map, Array.getElem?_toList, Array.getElem?_map] at hx hy
  cases hp : parts[k]? with
  | none => simp [hp] at hx
  | some q => simp [hp] at hx hy; subst hx; subst hy; exact ⟨rfl, hρ _⟩

theorem run_mapM_arr {α γ : Type} (f : α → Sem γ) (q : α → γ) (xs : Array α) (h : ∀ x ∈ xs, (f x).run P w = .ok (q x) w) : (xs.mapM f).run P w = .ok (xs.map q) w := by
  obtain ⟨l⟩ := xs
  rw [List.mapM_toArray]
  simp only [Sem.run_map]
  have : (l.mapM f).run P w = .ok (l.map q) w := by
    induction l with
    | nil => simp
    | cons x l ih =>
      have h0 := h x (by simp)
      have ih' := ih fun y hy => h y (by simp at hy ⊢; exact .inr hy)
      simp [List.mapM_cons, h0, ih']
  rw [this]
  simp

theorem slLen_val {v : V} {a : Value} (h : RV P H β v a) : ∀ n, slLen v = some n → ∃ A cap, a = .slice A n cap := by
  intro n hn
  cases h <;> simp [slLen] at hn
  all_goals (subst hn; exact ⟨_, _, rfl⟩)

set_option maxHeartbeats 2000000 in
theorem core_done (E : Env) (C : Oracle) {ρ : Operand → V} {ρ' : Operand → Value} (hρ : ∀ x, RV P H β (ρ x) (ρ' x)) (hr : Rel P H β ob w) (hβ : β (.own t g) = none) {o : Oper}
    (hc : ∀ c f, o.op = .call c → c.callee ≠ .value f) {r : Res} {l : List Id} (h : (core P E C ρ t g o).run ob = some (r, l)) : Done P H β ob w t g r (execOp ρ' o) := by
  unfold core at h
  unfold execOp
  cases hop : o.op with
  | move x =>
    simp only [hop] at h ⊢
    have := Rd.run_pure h; simp only [Prod.mk.injEq] at this; obtain ⟨rfl, rfl⟩ := this
    exact ⟨_, H, β, w, .inl rfl, Out.val hr (hρ x)⟩
  | assign x =>
    simp only [hop] at h ⊢
    have := Rd.run_pure h; simp only [Prod.mk.injEq] at this; obtain ⟨rfl, rfl⟩ := this
    exact ⟨_, H, β, w, .inl rfl, Out.val hr (hρ x)⟩
  | pick c a b =>
    simp only [hop] at h ⊢
    have hcv := hρ c
    split at h
    · rename_i e; rw [e] at hcv
      have := Rd.run_pure h; simp only [Prod.mk.injEq] at this; obtain ⟨rfl, rfl⟩ := this
      cases hu : ρ' c <;> rw [hu] at hcv <;> cases hcv
      exact ⟨_, H, β, w, .inl (by simp [hu, asBool]), Out.val hr (hρ a)⟩
    · rename_i e; rw [e] at hcv
      have := Rd.run_pure h; simp only [Prod.mk.injEq] at this; obtain ⟨rfl, rfl⟩ := this
      cases hu : ρ' c <;> rw [hu] at hcv <;> cases hcv
      exact ⟨_, H, β, w, .inl (by simp [hu, asBool]), Out.val hr (hρ b)⟩
    · exact (Rd.run_fail h).elim
  | alloc e =>
    simp only [hop] at h ⊢
    obtain ⟨z, l1, l2, h1, h2, _⟩ := Rd.run_bind h
    obtain ⟨h1, _⟩ := Rd.run_opt h1
    obtain ⟨zu, z1, z2⟩ := run_zero (H := H) (β := β) h1 w
    obtain ⟨H', β', w', q1, q2⟩ := mkOb_sound hr hβ z2 h2
    exact ⟨_, H', β', w', .inl (by simp [Instr.alloc, z1, q1]), q2⟩
  | box e x =>
    simp only [hop] at h ⊢
    obtain ⟨H', β', w', q1, q2⟩ := mkOb_sound hr hβ (hρ x) h
    exact ⟨_, H', β', w', .inl (by simp [Instr.box, q1]), q2⟩
  | build ty parts =>
    simp only [hop] at h ⊢
    split at h
    · rename_i z fields hz hu
      split at h
      · rename_i hzk
        simp only [Bool.and_eq_true] at hzk
        obtain ⟨hzk, hfs⟩ := hzk
        refine Done.val hr h fun v0 hv0 => ?_
        obtain ⟨zu, z1, z2⟩ := run_zero (H := H) (β := β) hz w
        obtain ⟨f1, f2, f3⟩ := flat_rel z2 hzk
        cases hf : fillV (fun i => (fields[i]?).bind fun f => (szT P f.type).map fun s => (f.offset, s)) z.flat (parts.toList.map fun (i, x) => (i, ρ x)) with
        | none => rw [hf] at hv0; simp at hv0
        | some cells =>
          rw [hf] at hv0
          simp only [Option.map_some, Option.some.injEq] at hv0; subst hv0
          obtain ⟨arr', p1, p2, p3⟩ := fill_sound _ _ _ _ _ _ (PR_parts hρ parts) f2 f1 hf
          have hm := run_mapM_arr (P := P) (w := w) (fun f : Field => (do pure (f.offset, ← sizeOf f.type) : Sem (Nat × Nat))) (fun f => (f.offset, (szT P f.type).getD 0)) fields (fun f hf => by
            have := Array.all_eq_true_iff_forall_mem.1 hfs f hf
            cases hz : szT P f.type with
            | none => simp [hz] at this
            | some n => simp [run_sizeOf hz])
          have hpl : (fun (i : Nat) => (fields.map fun (f : Field) => (f.offset, (szT P f.type).getD 0))[i]?) = (fun (i : Nat) => (fields[i]?).bind fun (f : Field) => (szT P f.type).map fun s => (f.offset, s)) := by
            funext i
            rw [Array.getElem?_map]
            cases hq : fields[i]? with
            | none => rfl
            | some f =>
              have hmem : f ∈ fields := by obtain ⟨h, e⟩ := Array.getElem?_eq_some_iff.1 hq; rw [← e]; exact Array.getElem_mem h
              have := Array.all_eq_true_iff_forall_mem.1 hfs f hmem
              cases hz : szT P f.type with
              | none => simp [hz] at this
              | some n => simp [hz]
          rw [← hpl] at p1
          refine ⟨.agg arr', ?_, agg_of_CR p2 p3⟩
          unfold Instr.build
          simp only [Sem.run_bind, z1, Result.andThen_ok, run_underlying hu, hm, p1, Sem.run_pure]
      · exact (Rd.run_fail h).elim
    · rename_i z len e hz hu
      split at h
      · rename_i sz hsz
        split at h
        · rename_i hzk
          refine Done.val hr h fun v0 hv0 => ?_
          obtain ⟨zu, z1, z2⟩ := run_zero (H := H) (β := β) hz w
          obtain ⟨f1, f2, f3⟩ := flat_rel z2 hzk
          cases hf : fillV (fun i => some (i * sz, sz)) z.flat (parts.toList.map fun (i, x) => (i, ρ x)) with
          | none => rw [hf] at hv0; simp at hv0
          | some cells =>
            rw [hf] at hv0
            simp only [Option.map_some, Option.some.injEq] at hv0; subst hv0
            obtain ⟨arr', p1, p2, p3⟩ := fill_sound _ _ _ _ _ _ (PR_parts hρ parts) f2 f1 hf
            refine ⟨.agg arr', ?_, agg_of_CR p2 p3⟩
            unfold Instr.build
            simp only [Sem.run_bind, z1, Result.andThen_ok, run_underlying hu, run_sizeOf hsz, p1, Sem.run_pure]
        · exact (Rd.run_fail h).elim
      · exact (Rd.run_fail h).elim
    · exact (Rd.run_fail h).elim
  | buildSlice ty len parts =>
    simp only [hop] at h ⊢
    split at h
    · rename_i e hu
      split at h
      · rename_i sz z hsz hz
        split at h
        · rename_i hcond
          simp only [Bool.and_eq_true, beq_iff_eq, decide_eq_true_eq] at hcond
          obtain ⟨⟨⟨hzk, hzl⟩, hlen⟩, hs0⟩ := hcond
          obtain ⟨cs, l1, l2, h1, h2, _⟩ := Rd.run_bind h
          obtain ⟨h1, _⟩ := Rd.run_opt h1
          have := Rd.run_pure h2; simp only [Prod.mk.injEq] at this; obtain ⟨rfl, rfl⟩ := this
          obtain ⟨zu, z1, z2⟩ := run_zero (H := H) (β := β) hz w
          obtain ⟨f1, f2, f3⟩ := flat_rel z2 hzk
          obtain ⟨c1, c2⟩ := CR_rep f1 f2 len (by omega)
          rw [hzl] at c1 c2
          obtain ⟨arr', p1, p2, p3⟩ := fill_sound _ _ _ _ _ _ (PR_parts hρ parts) c1 (by rw [c2]; simp) h1
          have hlen2 : cs.length = len * sz := by
            have : ∀ (pl : Nat → Option (Nat × Nat)) (l : List (Nat × V)) (a b : List V), fillV pl a l = some b → b.length = a.length := by
              intro pl l
              induction l with
              | nil => intro a b h; simp [fillV] at h; rw [h]
              | cons q l ih =>
                intro a b h
                obtain ⟨i, v⟩ := q
                simp only [fillV] at h
                split at h
                · simp at h
                · split at h
                  · rename_i hk
                    simp only [Bool.and_eq_true, beq_iff_eq, decide_eq_true_eq] at hk
                    rw [ih _ _ h]; simp [putCells]; omega
                  · simp at h
            rw [this _ _ _ _ h1, c2]
          have hbig : ¬ (len * sz > 2 ^ 24) := by omega
          refine ⟨.slice (some ⟨w.heap.size, 0, none⟩) len len, _, _, _, .inl ?_, Out.new hr hβ p3 (frok_zero _) (ty := e) fun β' hle hb => .sl _ _ _ _ _ _ _ _ sz len hb hsz (by rw [p2, hlen2]; omega) (Nat.le_refl _) (fun _ => rfl)⟩
          by_cases hl0 : len * sz = 0
          · have hl1 : len = 0 := by rcases Nat.mul_eq_zero.1 hl0 with h | h <;> omega
            subst hl1
            have hr0 : ∀ f : Nat → Value, (Array.range (0 * sz)).map f = #[] := fun f => by simp
            rw [hr0] at p1
            unfold Instr.buildSlice
            simp only [Sem.run_bind, run_underlying hu, Result.andThen_ok, run_sizeOf hsz, Sem.run_ite, if_neg hbig, if_pos hl0, Sem.run_pure, hr0, p1]
            simp [newRow]
          · unfold Instr.buildSlice
            simp only [Sem.run_bind, run_underlying hu, Result.andThen_ok, run_sizeOf hsz, Sem.run_ite, if_neg hbig, if_neg hl0, z1, Sem.run_pure, p1]
            simp [newRow]
        · exact (Rd.run_fail h).elim
      · exact (Rd.run_fail h).elim
    · exact (Rd.run_fail h).elim
  | load ty a =>
    simp only [hop] at h ⊢
    have hav := hρ a
    split at h
    · rename_i id off e; rw [e] at hav
      obtain ⟨o, l', ho, h2, _⟩ := Rd.run_look h
      refine Done.val hr h2 fun v0 hv0 => ?_
      cases hu : ρ' a <;> rw [hu] at hav <;> cases hav
      rename_i b' sz' hβ'
      obtain ⟨b, sz, arr, fr, q1, q2, q3, q4, q5, q6, q7⟩ := (hr.real ho hβ').out
      rw [hβ'] at q1; cases q1
      obtain ⟨u, p1, p2⟩ := run_ld (P := P) q2 q5 hv0
      exact ⟨u, by simpa [Instr.loadAt, Instr.sureAddr] using p1, p2⟩
    · rename_i c off e; rw [e] at hav
      refine Done.val hr h fun v0 hv0 => ?_
      cases hu : ρ' a <;> rw [hu] at hav <;> cases hav
      rename_i b base arr ty' fr h1 h2 h3
      obtain ⟨u, p1, p2⟩ := run_ld (P := P) (β := noB) (H := H) (hr.hp _ _ h1) (base := base) (cells := c) ⟨h2, h3⟩ hv0
      exact ⟨u, by simpa [Instr.loadAt, Instr.sureAddr] using p1, p2.mono (Hp.le_refl _) (noB_le _)⟩
    · exact (Rd.run_fail h).elim
  | store ty a x =>
    simp only [hop] at h ⊢
    have hav := hρ a
    split at h
    · rename_i id off sz e hsz; rw [e] at hav
      obtain ⟨o, l', ho, h2, _⟩ := Rd.run_look h
      split at h2
      · rename_i hcond
        simp only [Bool.and_eq_true, beq_iff_eq, decide_eq_true_eq, Bool.not_eq_true'] at hcond
        obtain ⟨⟨⟨hk, hl⟩, hle⟩, hfz⟩ := hcond
        have := Rd.run_pure h2; simp only [Prod.mk.injEq] at this; obtain ⟨rfl, rfl⟩ := this
        cases hu : ρ' a <;> rw [hu] at hav <;> cases hav
        rename_i b' sz' hβ'
        obtain ⟨w', p1, p2⟩ := Out.store (t := t) (g := g) hr ho hfz hβ' (hρ x) hk (off := off) (by rw [hl]; exact hle) (ty := ty) (by rw [hl]; exact hsz) (v0 := .tup []) (u0 := undef) (.tup _ _ _ rfl fun k y u hy => by simp at hy)
        exact ⟨undef, H, β, w', .inr ⟨by simp [Instr.storeAt, Instr.sureAddr, p1], rfl⟩, p2⟩
      · exact (Rd.run_fail h2).elim
    · exact (Rd.run_fail h).elim
  | nilCheck x =>
    simp only [hop] at h ⊢
    have hxv := hρ x
    split at h
    · rename_i id off e; rw [e] at hxv
      have := Rd.run_pure h; simp only [Prod.mk.injEq] at this; obtain ⟨rfl, rfl⟩ := this
      cases hu : ρ' x <;> rw [hu] at hxv <;> cases hxv
      rename_i b sz hβ'
      exact ⟨_, H, β, w, .inl rfl, Out.val hr (.lp _ _ _ b sz hβ')⟩
    · rename_i c off e; rw [e] at hxv
      have := Rd.run_pure h; simp only [Prod.mk.injEq] at this; obtain ⟨rfl, rfl⟩ := this
      cases hu : ρ' x <;> rw [hu] at hxv
      all_goals try (cases hxv; done)
      cases hxv with
      | fp _ _ _ b base arr ty fr h1 h2 h3 => exact ⟨_, H, β, w, .inl rfl, Out.val hr (.fp _ _ _ b base arr ty fr h1 h2 h3)⟩
    · rename_i f caps e; rw [e] at hxv
      have := Rd.run_pure h; simp only [Prod.mk.injEq] at this; obtain ⟨rfl, rfl⟩ := this
      cases hu : ρ' x <;> rw [hu] at hxv
      all_goals try (cases hxv; done)
      cases hxv with
      | fn _ _ _ _ h1 h2 => exact ⟨_, H, β, w, .inl rfl, Out.val hr (.fn _ _ _ _ h1 h2)⟩
    · exact (Rd.run_fail h).elim
  | binOp op ty x y ty2 =>
    simp only [hop] at h ⊢
    exact Done.val hr h fun v0 hv0 => vBin_sound (hρ x) (hρ y) hv0 x y w
  | unOp op ty x =>
    simp only [hop] at h ⊢
    exact Done.val hr h fun v0 hv0 => vUn_sound (hρ x) hv0 w
  | convert src dst x =>
    simp only [hop] at h ⊢
    have hxv := hρ x
    split at h
    · rename_i k1 k k2 n hs hd e; rw [e] at hxv
      cases hu : ρ' x <;> rw [hu] at hxv <;> cases hxv
      exact Done.pure hr h (u := .int k (k.wrap n)) (by simp [convert, run_underlying hs, run_underlying hd, Conv.intToInt]) (.int ..)
    · rename_i s hs hd e; rw [e] at hxv
      cases hu : ρ' x <;> rw [hu] at hxv <;> cases hxv
      exact Done.pure hr h (u := .string s) (by simp [convert, run_underlying hs, run_underlying hd]) (.str ..)
    · rename_i k1 k2 n hs hd e; rw [e] at hxv
      cases hu : ρ' x <;> rw [hu] at hxv <;> cases hxv
      exact Done.pure hr h (u := .string (Utf8.encode n)) (by simp [convert, run_underlying hs, run_underlying hd, Conv.intToString]) (.str ..)
    · rename_i e s hs hd e1; rw [e1] at hxv
      cases hu : ρ' x <;> rw [hu] at hxv <;> cases hxv
      split at h
      · rename_i he hsz
        have := Rd.run_pure h; simp only [Prod.mk.injEq] at this; obtain ⟨rfl, rfl⟩ := this
        have hrun := run_bytes_of_string w src dst e s hs hd he
        have hge : s.size ≤ grownCap w s.size 0 e := by simp only [grownCap, Question.cut]; omega
        have hsize : (bytesRow s (grownCap w s.size 0 e)).size = grownCap w s.size 0 e := by
          have hds : s.data.size = s.size := rfl
          unfold bytesRow
          rw [Array.size_append, Array.size_map, Array.size_replicate, hds]; omega
        have hcr : CR P H β (bytesV s) (bytesRow s (grownCap w s.size 0 e)) 0 := by
          refine ⟨by rw [hsize]; simp [bytesV]; exact hge, fun k y u hy hu => ?_⟩
          simp only [bytesV, List.getElem?_map, Array.getElem?_toList] at hy
          simp only [Nat.zero_add] at hu
          cases hd : s.data[k]? with
          | none => simp [hd] at hy
          | some c =>
            have hlt : k < s.data.size := (Array.getElem?_eq_some_iff.1 hd).1
            simp [hd] at hy
            rw [bytesRow, Array.getElem?_append_left (by simpa using hlt)] at hu
            simp [hd] at hu
            subst hy; subst hu; exact .int ..
        have hfr : frok ((bytesRow s (grownCap w s.size 0 e)).size, (bytesRow s (grownCap w s.size 0 e)).size + 1) (bytesRow s (grownCap w s.size 0 e)).size := fun k hk => by simp; omega
        have hnew := Out.new (t := t) (g := g) hr.drew hβ hcr hfr (ty := e) (v := .sl (.own t g) 0 s.size e false) (u := .slice (some ⟨w.heap.size, 0, none⟩) s.size (grownCap w s.size 0 e))
          fun β' hle hb => .sl _ _ _ _ _ _ _ _ 1 _ hb hsz (by rw [hsize]; omega) hge (by simp)
        exact ⟨_, _, _, _, .inl (by simp [hrun]), hnew.before (Keep.drew _ _) rfl⟩
      · exact (Rd.run_fail h).elim
    · rename_i e hs hd
      split at h
      · rename_i he hsz
        obtain ⟨cs, l1, l2, h1, h2, _⟩ := Rd.run_bind h
        obtain ⟨n, l3, l4, h3, h4, _⟩ := Rd.run_bind h2
        obtain ⟨h3, _⟩ := Rd.run_opt h3
        split at h4
        · rename_i hcond
          simp only [Bool.and_eq_true, beq_iff_eq] at hcond
          obtain ⟨hall, hlen⟩ := hcond
          obtain ⟨A, cap, us, e1, e2, e3, e4⟩ := slCells_sound hr hxv h1 h3 (by omega) (Nat.one_pos)
          refine Done.pure hr h4 (u := .string ⟨(cs.map fun c => UInt8.ofNat (byteI c).toNat).toArray⟩) ?_ (.str ..)
          rw [e1]
          have hcs : ∀ (k : Nat) (u : Value), us[k]? = some u → u = .int .u8 ((cs.map byteI).getD k 0) := by
            intro k u hu
            have hk : k < us.size := (Array.getElem?_eq_some_iff.1 hu).1
            have hkc : k < cs.length := by rw [← e3.1]; exact hk
            have hv := e3.2 k cs[k] u (by simp [hkc]) hu
            have hb := List.all_eq_true.1 hall cs[k] (List.getElem_mem hkc)
            have hg : (cs.map byteI).getD k 0 = byteI cs[k] := by simp [List.getD, hkc]
            rw [hg]
            cases hck : cs[k] with
            | int kk n =>
              rw [hck] at hv hb
              cases kk <;> simp [byteOk] at hb
              cases hv; rfl
            | _ => rw [hck] at hb; simp [byteOk] at hb
          have hfst := e4 w rfl
          cases A with
          | none =>
            have hn0 : us = #[] := by simpa [e1, Builtin.firstCells] using hfst.symm
            have : cs = [] := by
              apply List.eq_nil_of_length_eq_zero
              rw [← e3.1, hn0]; rfl
            rw [run_convert_bytes_nil w src e hs he n cap dst hd, this]
            rfl
          | some a =>
            have hl : (loadCells a n).run P w = .ok ((cs.map byteI).map (Value.int .u8)).toArray w := by
              have : us = ((cs.map byteI).map (Value.int .u8)).toArray := by
                apply Array.ext_getElem?
                intro k
                by_cases hk : k < us.size
                · have := hcs k us[k] (by simp [hk])
                  have hkc : k < cs.length := by rw [← e3.1]; exact hk
                  simp [hk, hkc] at this ⊢
                  rw [this]
                · have hkc : ¬ k < cs.length := by rw [← e3.1]; exact hk
                  simp [Nat.not_lt.1 hk, Nat.not_lt.1 hkc]
              rw [← this]
              simpa [e1, Builtin.firstCells] using hfst
            rw [run_convert_bytes_string w src dst e _ n cap hs he hd, run_bytesToString w _ n cap _ hl, foldl_push_bytes]
            simp [ByteArray.empty, ByteArray.emptyWithCapacity]
            rfl
        · exact (Rd.run_fail h4).elim
      · exact (Rd.run_fail h).elim
    · exact (Rd.run_fail h).elim
  | makeFunc fn first captured =>
    cases fn with
    | func f =>
      simp only [hop] at h ⊢
      split at h
      · rename_i hf
        have hf' : first = #[] := by simpa using hf
        subst hf'
        refine Done.pure hr h (s := Instr.makeFunc (.func f) ((#[] : Array Operand).map ρ') (captured.map ρ')) (u := .func (.func f) #[] (captured.map ρ')) (by simp [Instr.makeFunc]) (.fn _ _ _ _ (by simp) fun k y u hy hu => RV_toList hρ captured k y u hy hu)
      · exact (Rd.run_fail h).elim
    | _ => simp only [hop] at h; exact (Rd.run_fail h).elim
  | slice ty x lo hi mx =>
    simp only [hop] at h ⊢
    obtain ⟨v, l1, l2, h1, h2, _⟩ := Rd.run_bind h
    obtain ⟨u, p1, p2⟩ := vSlice_sound hr (hρ x) (OV_map hρ lo) (OV_map hρ hi) (OV_map hρ mx) h1 w
    exact Done.pure hr h2 p1 p2
  | fieldAddr st x f =>
    simp only [hop] at h ⊢
    have hxv := hρ x
    split at h
    · rename_i fields hu
      split at h
      · rename_i fd hfd
        split at h
        · rename_i sz hsz
          split at h
          · exact (Rd.run_fail h).elim
          · rename_i hs0
            have hplace : ∀ (b off : Nat), (fieldPlace ⟨b, off, none⟩ fd).run P w = .ok ⟨b, off + fd.offset, none⟩ w := by
              intro b off
              simp [fieldPlace, run_sizeOf hsz, hs0, add_none]
            split at h
            · rename_i id off e; rw [e] at hxv
              cases hq : ρ' x <;> rw [hq] at hxv <;> cases hxv
              rename_i b sz' hβ'
              exact Done.pure hr h (by simp [Instr.fieldAt, run_underlying hu, hfd, Instr.sureAddr, hplace]) (.lp _ _ _ b sz' hβ')
            · rename_i c off e; rw [e] at hxv
              cases hq : ρ' x <;> rw [hq] at hxv
              all_goals try (cases hxv; done)
              cases hxv with
              | fp _ _ _ b base arr ty fr h1 h2 h3 =>
                refine Done.pure hr h (u := .pointer (some ⟨b, base + (off + fd.offset), none⟩)) ?_ (.fp _ _ _ b base arr ty fr h1 h2 h3)
                simp [Instr.fieldAt, run_underlying hu, hfd, Instr.sureAddr, hplace, Nat.add_assoc]
            · exact (Rd.run_fail h).elim
        · exact (Rd.run_fail h).elim
      · exact (Rd.run_fail h).elim
    · exact (Rd.run_fail h).elim
  | field ty x f =>
    simp only [hop] at h ⊢
    have hxv := hρ x
    split at h
    · rename_i fields cs hu e; rw [e] at hxv
      split at h
      · rename_i fd hfd
        refine Done.val hr h fun v0 hv0 => ?_
        cases hq : ρ' x <;> rw [hq] at hxv
        all_goals try (cases hxv; done)
        obtain ⟨c1, c2⟩ := CR_of_agg hxv
        obtain ⟨u, p1, p2⟩ := run_part c1 c2 hv0 w
        exact ⟨u, by simp [Instr.field, run_underlying hu, hfd, asAgg, p1], p2⟩
      · exact (Rd.run_fail h).elim
    · exact (Rd.run_fail h).elim
  | indexAddr ty x i =>
    simp only [hop] at h ⊢
    exact Done.val hr h fun v0 hv0 => vIndexAddr_sound (hρ x) (hρ i) hv0 w
  | index ty x i =>
    simp only [hop] at h ⊢
    exact Done.val hr h fun v0 hv0 => vIndex_sound (hρ x) (hρ i) hv0 w
  | extract x i =>
    simp only [hop] at h ⊢
    have hxv := hρ x
    split at h
    · rename_i l0 e; rw [e] at hxv
      refine Done.val hr h fun v0 hv0 => ?_
      cases hq : ρ' x <;> rw [hq] at hxv
      all_goals try (cases hxv; done)
      cases hxv with
      | tup _ _ _ hn hc =>
        rename_i cs
        have hlt : i < l0.length := (List.getElem?_eq_some_iff.1 hv0).1
        have hci : cs[i]? = some (cs[i]'(by omega)) := by simp
        exact ⟨_, by simp [Instr.extract, hci], hc i v0 _ hv0 hci⟩
    · exact (Rd.run_fail h).elim
  | call c =>
    simp only [hop] at h ⊢
    have hcal := hc c
    have harg : ∀ (k : Nat) (y : V) (u : Value), (c.args.toList.map ρ)[k]? = some y → (c.args.map ρ')[k]? = some u → RV P H β y u := fun k y u => RV_toList hρ c.args k y u
    have hasz : (c.args.map ρ').size = (c.args.toList.map ρ).length := by simp
    cases hcc : c.callee with
    | value f => exact absurd hcc (hcal f hop)
    | invoke x y => simp only [hcc] at h; exact (Rd.run_fail h).elim
    | builtin bi =>
      obtain ⟨cns, hres⟩ : ∃ cns, (resolve ρ' c o.type).run P w = .ok { target := .builtin bi c.argTypes o.type cns, args := c.args.map ρ' } w := ⟨_, by simp only [resolve, hcc]; rfl⟩
      generalize hA : c.args.map ρ' = A at harg hasz hres
      generalize hL : c.args.toList.map ρ = L at harg hasz h
      cases bi <;> simp only [hcc] at h
      all_goals try (exact (Rd.run_fail h).elim)
      · -- append
        split at h
        · rename_i ty ty2 s x e1
          obtain ⟨a0, a1, rfl⟩ : ∃ a0 a1, A = #[a0, a1] := by
            obtain ⟨l⟩ := A
            simp at hasz
            match l, hasz with
            | [p, q], _ => exact ⟨p, q, rfl⟩
          have ht : c.argTypes = #[ty, ty2] := by apply Array.ext'; simpa using e1
          split at h
          · exact (Rd.run_fail h).elim
          · exact (Rd.run_fail h).elim
          · rename_i d2 hd2 hu2
            obtain ⟨u, H', β', w', p1, p2⟩ := vAppend_sound (rt := o.type) hu2 (fun k e => hd2 k e) hr hβ (harg 0 _ _ rfl rfl) (harg 1 _ _ rfl rfl) h
            have p1' : (Builtin.append_ #[ty, ty2] o.type #[a0, a1]).run P w = .ok u w' := p1
            exact ⟨u, H', β', w', .inl (by simp [hres, invoke, builtin, ht, p1']), p2⟩
        · exact (Rd.run_fail h).elim
      · -- len
        split at h
        · rename_i ty l1 v l2 e1
          obtain ⟨a0, l, hl⟩ : ∃ a0 l, A.toList = a0 :: l := by
            obtain ⟨l⟩ := A
            cases l with
            | nil => simp at hasz
            | cons p q => exact ⟨p, q, rfl⟩
          have h0 : A[0]? = some a0 := by rw [← Array.getElem?_toList, hl]; rfl
          have ht0 : c.argTypes[0]? = some ty := by rw [← Array.getElem?_toList, e1]; rfl
          have hv := harg 0 v a0 rfl h0
          have hslg := slLen_val hv
          split at h
          · rename_i s hu
            cases hv
            have := Rd.run_pure h; simp only [Prod.mk.injEq] at this; obtain ⟨rfl, rfl⟩ := this
            exact ⟨_, H, β, w, .inl (by simp [hres, invoke, builtin, Builtin.len_, ht0, h0, run_underlying hu]; rfl), Out.val hr (.int ..)⟩
          · rename_i n _ hu
            have := Rd.run_pure h; simp only [Prod.mk.injEq] at this; obtain ⟨rfl, rfl⟩ := this
            exact ⟨_, H, β, w, .inl (by simp [hres, invoke, builtin, Builtin.len_, ht0, h0, run_underlying hu]; rfl), Out.val hr (.int ..)⟩
          · rename_i e hu
            obtain ⟨v0, l3, l4, h1, h2, _⟩ := Rd.run_bind h
            obtain ⟨h1, _⟩ := Rd.run_opt h1
            have := Rd.run_pure h2; simp only [Prod.mk.injEq] at this; obtain ⟨rfl, rfl⟩ := this
            obtain ⟨n, h1a, h1b⟩ := Option.map_eq_some_iff.1 h1
            subst h1b
            obtain ⟨A', cap, rfl⟩ := hslg n h1a
            exact ⟨_, H, β, w, .inl (by simp [hres, invoke, builtin, Builtin.len_, ht0, h0, run_underlying hu]; rfl), Out.val hr (.int ..)⟩
          · exact (Rd.run_fail h).elim
        · exact (Rd.run_fail h).elim
      · -- max
        split at h
        · rename_i v l1
          obtain ⟨a0, l, hl⟩ : ∃ a0 l, A.toList = a0 :: l := by
            obtain ⟨l⟩ := A
            cases l with
            | nil => simp at hasz
            | cons p q => exact ⟨p, q, rfl⟩
          have hgl : ∀ k, A[k]? = (a0 :: l)[k]? := fun k => by rw [← Array.getElem?_toList, hl]
          obtain ⟨v0, l3, l4, h1, h2, _⟩ := Rd.run_bind h
          obtain ⟨h1, _⟩ := Rd.run_opt h1
          have := Rd.run_pure h2; simp only [Prod.mk.injEq] at this; obtain ⟨rfl, rfl⟩ := this
          obtain ⟨u, p1, p2⟩ := vMax_sound w l1 v v0 a0 l (harg 0 v a0 rfl (by rw [hgl]; rfl)) (by rw [← Array.length_toList, hl] at hasz; simpa using hasz) (fun k y u hy hu => harg (k + 1) y u (by simpa using hy) (by rw [hgl]; simpa using hu)) h1
          exact ⟨u, H, β, w, .inl (by simp [hres, invoke, builtin, Builtin.max_, hl, p1]), Out.val hr p2⟩
        · exact (Rd.run_fail h).elim
      · -- min
        split at h
        · rename_i v l1
          obtain ⟨a0, l, hl⟩ : ∃ a0 l, A.toList = a0 :: l := by
            obtain ⟨l⟩ := A
            cases l with
            | nil => simp at hasz
            | cons p q => exact ⟨p, q, rfl⟩
          have hgl : ∀ k, A[k]? = (a0 :: l)[k]? := fun k => by rw [← Array.getElem?_toList, hl]
          obtain ⟨v0, l3, l4, h1, h2, _⟩ := Rd.run_bind h
          obtain ⟨h1, _⟩ := Rd.run_opt h1
          have := Rd.run_pure h2; simp only [Prod.mk.injEq] at this; obtain ⟨rfl, rfl⟩ := this
          obtain ⟨u, p1, p2⟩ := vMin_sound w l1 v v0 a0 l (harg 0 v a0 rfl (by rw [hgl]; rfl)) (by rw [← Array.length_toList, hl] at hasz; simpa using hasz) (fun k y u hy hu => harg (k + 1) y u (by simpa using hy) (by rw [hgl]; simpa using hu)) h1
          exact ⟨u, H, β, w, .inl (by simp [hres, invoke, builtin, Builtin.min_, hl, p1]), Out.val hr p2⟩
        · exact (Rd.run_fail h).elim
  | _ => simp only [hop] at h; exact (Rd.run_fail h).elim
end
end Go.Vi
