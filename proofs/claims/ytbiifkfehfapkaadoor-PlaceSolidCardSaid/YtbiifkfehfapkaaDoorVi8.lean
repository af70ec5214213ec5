/- Vi, part 8: every operation that calls no function of Go. -/
import Derived.Test.YtbiifkfehfapkaaDoorVi7
import Derived.Laws.IdiomStrings
import Derived.Laws.BytesArg
set_option linter.unusedVariables false
set_option linter.unusedSimpArgs false
namespace Go.Vi
section
variable {P : Program} {H : Hp} {β : Bt} {ob : Id → Option Ob} {w : World} {t g : Nat}

/-- What an operation comes to that calls nothing. -/
def Done (P : Program) (H : Hp) (β : Bt) (ob : Id → Option Ob) (w : World) (t g : Nat) (r : Res) (s : Sem Next) : Prop :=
  ∃ u H' β' w', (s.run P w = .ok (.value u) w' ∨ (s.run P w = .ok .skip w' ∧ u = undef)) ∧ Out P H β ob w t g r u H' β' w'

theorem Done.val (hr : Rel P H β ob w) {s : Sem Value} {v : Option V} {r : Res} {l : List Id} (h : (Vi.val v).run ob = some (r, l)) (hs : ∀ v0, v = some v0 → ∃ u, s.run P w = .ok u w ∧ RV P H β v0 u) :
    Done P H β ob w t g r (do pure (.value (← s))) := by
  obtain ⟨v0, l1, l2, h1, h2, _⟩ := Rd.run_bind h
  obtain ⟨h1, _⟩ := Rd.run_opt h1
  obtain ⟨u, q1, q2⟩ := hs v0 h1
  have := Rd.run_pure h2; simp only [Prod.mk.injEq] at this; obtain ⟨rfl, rfl⟩ := this
  exact ⟨u, H, β, w, .inl (by simp [q1]), Out.val hr q2⟩

theorem Done.pure (hr : Rel P H β ob w) {s : Sem Value} {v : V} {r : Res} {l : List Id} (h : (Rd.pure (⟨v, [], 0⟩ : Res)).run ob = some (r, l)) {u : Value} (h1 : s.run P w = .ok u w) (h2 : RV P H β v u) :
    Done P H β ob w t g r (do pure (.value (← s))) := by
  have := Rd.run_pure h; simp only [Prod.mk.injEq] at this; obtain ⟨rfl, rfl⟩ := this
  exact ⟨u, H, β, w, .inl (by simp [h1]), Out.val hr h2⟩

theorem mkOb_sound (hr : Rel P H β ob w) (hβ : β (.own t g) = none) {e : TypeId} {v : V} {a : Value} (ha : RV P H β v a) {r : Res} {l : List Id} (h : (mkOb e v (.own t g)).run ob = some (r, l)) :
    ∃ H' β' w', (newVar e a).run P w = .ok ⟨w.heap.size, 0, none⟩ w' ∧ Out P H β ob w t g r (.pointer (some ⟨w.heap.size, 0, none⟩)) H' β' w' := by
  unfold mkOb at h
  split at h
  · rename_i hk
    have := Rd.run_pure h; simp only [Prod.mk.injEq] at this; obtain ⟨rfl, rfl⟩ := this
    obtain ⟨f1, f2, f3⟩ := flat_rel ha hk
    exact ⟨_, _, _, by simp [newVar, newRow], Out.new hr hβ f2 (frok_zero _) (ty := e) fun β' hle hb => .lp _ _ _ _ _ hb⟩
  · exact (Rd.run_fail h).elim

theorem RV_toList {ρ : Operand → V} {ρ' : Operand → Value} (hρ : ∀ x, RV P H β (ρ x) (ρ' x)) (xs : Array Operand) (k : Nat) (y : V) (u : Value) (hy : (xs.toList.map ρ)[k]? = some y) (hu : (xs.map ρ')[k]? = some u) : RV P H β y u := by
  simp only [List.getElem?_map, Array.getElem?_toList] at hy
  simp only [Array.getElem?_map] at hu
  cases hx : xs[k]? with
  | none => simp [hx] at hy
  | some x => simp [hx] at hy hu; subst hy; subst hu; exact hρ x

theorem PR_parts {ρ : Operand → V} {ρ' : Operand → Value} (hρ : ∀ x, RV P H β (ρ x) (ρ' x)) (parts : Array (Nat × Operand)) :
    PR P H β (parts.toList.map fun (i, x) => (i, ρ x)) (parts.map fun (i, x) => (i, ρ' x)).toList := by
  refine ⟨by simp, fun k x y hx hy => ?_⟩
  simp only [List.getElem?_map, Array.getElem?_toList, Array.getElem?_map] at hx hy
  cases hp : parts[k]? with
  | none => simp [hp] at hx
  | some q => simp [hp] at hx hy; subst hx; subst hy; exact ⟨rfl, hρ _⟩

theorem run_mapM_arr {α γ : Type} (f : α → Sem γ) (q : α → γ) (xs : Array α) (h : ∀ x ∈ xs, (f x).run P w = .ok (q x) w) : (xs.mapM f).run P w = .ok (xs.map q) w := by
  obtain ⟨l⟩ := xs
  rw [List.mapM_toArray]
  simp only [Sem.run_map]
  have : (l.mapM f).run P w = .ok (l.map q) w := by
    induction l with
    | nil => simp
    | cons x l ih =>
      have h0 := h x (by simp)
      have ih' := ih fun y hy => h y (by simp at hy ⊢; exact .inr hy)
      simp [List.mapM_cons, h0, ih']
  rw [this]
  simp

theorem slLen_val {v : V} {a : Value} (h : RV P H β v a) : ∀ n, slLen v = some n → ∃ A cap, a = .slice A n cap := by
  intro n hn
  cases h <;> simp [slLen] at hn
  all_goals (subst hn; exact ⟨_, _, rfl⟩)

set_option maxHeartbeats 2000000 in
theorem core_done (E : Env) (C : Oracle) {ρ : Operand → V} {ρ' : Operand → Value} (hρ : ∀ x, RV P H β (ρ x) (ρ' x)) (hr : Rel P H β ob w) (hβ : β (.own t g) = none) {o : Oper}
    (hc : ∀ c f, o.op = .call c → c.callee ≠ .value f) {r : Res} {l : List Id} (h : (core P E C ρ t g o).run ob = some (r, l)) : Done P H β ob w t g r (execOp ρ' o) := by
  unfold core at h
  unfold execOp
  cases hop : o.op with
  | move x =>
    simp only [hop] at h ⊢
    have := Rd.run_pure h; simp only [Prod.mk.injEq] at this; obtain ⟨rfl, rfl⟩ := this
    exact ⟨_, H, β, w, .inl rfl, Out.val hr (hρ x)⟩
  | assign x =>
    simp only [hop] at h ⊢
    have := Rd.run_pure h; simp only [Prod.mk.injEq] at this; obtain ⟨rfl, rfl⟩ := this
    exact ⟨_, H, β, w, .inl rfl, Out.val hr (hρ x)⟩
  | pick c a b =>
    simp only [hop] at h ⊢
    have hcv := hρ c
    split at h
    · rename_i e; rw [e] at hcv
      have := Rd.run_pure h; simp only [Prod.mk.injEq] at this; obtain ⟨rfl, rfl⟩ := this
      cases hu : ρ' c <;> rw [hu] at hcv <;> cases hcv
      exact ⟨_, H, β, w, .inl (by simp [hu, asBool]), Out.val hr (hρ a)⟩
    · rename_i e; rw [e] at hcv
      have := Rd.run_pure h; simp only [Prod.mk.injEq] at this; obtain ⟨rfl, rfl⟩ := this
      cases hu : ρ' c <;> rw [hu] at hcv <;> cases hcv
      exact ⟨_, H, β, w, .inl (by simp [hu, asBool]), Out.val hr (hρ b)⟩
    · exact (Rd.run_fail h).elim
  | alloc e =>
    simp only [hop] at h ⊢
    obtain ⟨z, l1, l2, h1, h2, _⟩ := Rd.run_bind h
    obtain ⟨h1, _⟩ := Rd.run_opt h1
    obtain ⟨zu, z1, z2⟩ := run_zero (H := H) (β := β) h1 w
    obtain ⟨H', β', w', q1, q2⟩ := mkOb_sound hr hβ z2 h2
    exact ⟨_, H', β', w', .inl (by simp [Instr.alloc, z1, q1]), q2⟩
  | box e x =>
    simp only [hop] at h ⊢
    obtain ⟨H', β', w', q1, q2⟩ := mkOb_sound hr hβ (hρ x) h
    exact ⟨_, H', β', w', .inl (by simp [Instr.box, q1]), q2⟩
  | build ty parts =>
    simp only [hop] at h ⊢
    split at h
    · rename_i z fields hz hu
      split at h
      · rename_i hzk
        simp only [Bool.and_eq_true] at hzk
        obtain ⟨hzk, hfs⟩ := hzk
        refine Done.val hr h fun v0 hv0 => ?_
        obtain ⟨zu, z1, z2⟩ := run_zero (H := H) (β := β) hz w
        obtain ⟨f1, f2, f3⟩ := flat_rel z2 hzk
        cases hf : fillV (fun i => (fields[i]?).bind fun f => (szT P f.type).map fun s => (f.offset, s)) z.flat (parts.toList.map fun (i, x) => (i, ρ x)) with
        | none => rw [hf] at hv0; simp at hv0
        | some cells =>
          rw [hf] at hv0
          simp only [Option.map_some, Option.some.injEq] at hv0; subst hv0
          obtain ⟨arr', p1, p2, p3⟩ := fill_sound _ _ _ _ _ _ (PR_parts hρ parts) f2 f1 hf
          have hm := run_mapM_arr (P := P) (w := w) (fun f : Field => (do pure (f.offset, ← sizeOf f.type) : Sem (Nat × Nat))) (fun f => (f.offset, (szT P f.type).getD 0)) fields (fun f hf => by
            have := Array.all_eq_true_iff_forall_mem.1 hfs f hf
            cases hz : szT P f.type with
            | none => simp [hz] at this
            | some n => simp [run_sizeOf hz])
          have hpl : (fun (i : Nat) => (fields.map fun (f : Field) => (f.offset, (szT P f.type).getD 0))[i]?) = (fun (i : Nat) => (fields[i]?).bind fun (f : Field) => (szT P f.type).map fun s => (f.offset, s)) := by
            funext i
            rw [Array.getElem?_map]
            cases hq : fields[i]? with
            | none => rfl
            | some f =>
              have hmem : f ∈ fields := by obtain ⟨h, e⟩ := Array.getElem?_eq_some_iff.1 hq; rw [← e]; exact Array.getElem_mem h
              have := Array.all_eq_true_iff_forall_mem.1 hfs f hmem
              cases hz : szT P f.type with
              | none => simp [hz] at this
              | some n => simp [hz]
          rw [← hpl] at p1
          refine ⟨.agg arr', ?_, agg_of_CR p2 p3⟩
          unfold Instr.build
          simp only [Sem.run_bind, z1, Result.andThen_ok, run_underlying hu, hm, p1, Sem.run_pure]
      · exact (Rd.run_fail h).elim
    · rename_i z len e hz hu
      split at h
      · rename_i sz hsz
        split at h
        · rename_i hzk
          refine Done.val hr h fun v0 hv0 => ?_
          obtain ⟨zu, z1, z2⟩ := run_zero (H := H) (β := β) hz w
          obtain ⟨f1, f2, f3⟩ := flat_rel z2 hzk
          cases hf : fillV (fun i => some (i * sz, sz)) z.flat (parts.toList.map fun (i, x) => (i, ρ x)) with
          | none => rw [hf] at hv0; simp at hv0
          | some cells =>
            rw [hf] at hv0
            simp only [Option.map_some, Option.some.injEq] at hv0; subst hv0
            obtain ⟨arr', p1, p2, p3⟩ := fill_sound _ _ _ _ _ _ (PR_parts hρ parts) f2 f1 hf
            refine ⟨.agg arr', ?_, agg_of_CR p2 p3⟩
            unfold Instr.build
            simp only [Sem.run_bind, z1, Result.andThen_ok, run_underlying hu, run_sizeOf hsz, p1, Sem.run_pure]
        · exact (Rd.run_fail h).elim
      · exact (Rd.run_fail h).elim
    · exact (Rd.run_fail h).elim
  | buildSlice ty len parts =>
    simp only [hop] at h ⊢
    split at h
    · rename_i e hu
      split at h
      · rename_i sz z hsz hz
        split at h
        · rename_i hcond
          simp only [Bool.and_eq_true, beq_iff_eq, decide_eq_true_eq] at hcond
          obtain ⟨⟨⟨hzk, hzl⟩, hlen⟩, hs0⟩ := hcond
          obtain ⟨cs, l1, l2, h1, h2, _⟩ := Rd.run_bind h
          obtain ⟨h1, _⟩ := Rd.run_opt h1
          have := Rd.run_pure h2; simp only [Prod.mk.injEq] at this; obtain ⟨rfl, rfl⟩ := this
          obtain ⟨zu, z1, z2⟩ := run_zero (H := H) (β := β) hz w
          obtain ⟨f1, f2, f3⟩ := flat_rel z2 hzk
          obtain ⟨c1, c2⟩ := CR_rep f1 f2 len (by omega)
          rw [hzl] at c1 c2
          obtain ⟨arr', p1, p2, p3⟩ := fill_sound _ _ _ _ _ _ (PR_parts hρ parts) c1 (by rw [c2]; simp) h1
          have hlen2 : cs.length = len * sz := by
            have : ∀ (pl : Nat → Option (Nat × Nat)) (l : List (Nat × V)) (a b : List V), fillV pl a l = some b → b.length = a.length := by
              intro pl l
              induction l with
              | nil => intro a b h; simp [fillV] at h; rw [h]
              | cons q l ih =>
                intro a b h
                obtain ⟨i, v⟩ := q
                simp only [fillV] at h
                split at h
                · simp at h
                · split at h
                  · rename_i hk
                    simp only [Bool.and_eq_true, beq_iff_eq, decide_eq_true_eq] at hk
                    rw [ih _ _ h]; simp [putCells]; omega
                  · simp at h
            rw [this _ _ _ _ h1, c2]
          have hbig : ¬ (len * sz > 2 ^ 24) := by omega
          refine ⟨.slice (some ⟨w.heap.size, 0, none⟩) len len, _, _, _, .inl ?_, Out.new hr hβ p3 (frok_zero _) (ty := e) fun β' hle hb => .sl _ _ _ _ _ _ _ _ sz len hb hsz (by rw [p2, hlen2]; omega) (Nat.le_refl _) (fun _ => rfl)⟩
          by_cases hl0 : len * sz = 0
          · have hl1 : len = 0 := by rcases Nat.mul_eq_zero.1 hl0 with h | h <;> omega
            subst hl1
            have hr0 : ∀ f : Nat → Value, (Array.range (0 * sz)).map f = #[] := fun f => by simp
            rw [hr0] at p1
            unfold Instr.buildSlice
            simp only [Sem.run_bind, run_underlying hu, Result.andThen_ok, run_sizeOf hsz, Sem.run_ite, if_neg hbig, if_pos hl0, Sem.run_pure, hr0, p1]
            simp [newRow]
          · unfold Instr.buildSlice
            simp only [Sem.run_bind, run_underlying hu, Result.andThen_ok, run_sizeOf hsz, Sem.run_ite, if_neg hbig, if_neg hl0, z1, Sem.run_pure, p1]
            simp [newRow]
        · exact (Rd.run_fail h).elim
      · exact (Rd.run_fail h).elim
    · exact (Rd.run_fail h).elim
  | load ty a =>
    simp only [hop] at h ⊢
    have hav := hρ a
    split at h
    · rename_i id off e; rw [e] at hav
      obtain ⟨o, l', ho, h2, _⟩ := Rd.run_look h
      obtain ⟨b, sz, arr, fr, q1, q2, q3, q4, q5, q6, q7⟩ := (hr.obj _ _ ho).out
      refine Done.val hr h2 fun v0 hv0 => ?_
      cases hu : ρ' a <;> rw [hu] at hav <;> cases hav
      rename_i b' sz' hβ'
      rw [hβ'] at q1; cases q1
      obtain ⟨u, p1, p2⟩ := run_ld (P := P) q2 q5 hv0
      exact ⟨u, by simpa [Instr.loadAt, Instr.sureAddr] using p1, p2⟩
    · rename_i c off e; rw [e] at hav
      refine Done.val hr h fun v0 hv0 => ?_
      cases hu : ρ' a <;> rw [hu] at hav <;> cases hav
      rename_i b base arr ty' fr h1 h2 h3
      obtain ⟨u, p1, p2⟩ := run_ld (P := P) (β := noB) (H := H) (hr.hp _ _ h1) (base := base) (cells := c) ⟨h2, h3⟩ hv0
      exact ⟨u, by simpa [Instr.loadAt, Instr.sureAddr] using p1, p2.mono (Hp.le_refl _) (noB_le _)⟩
    · exact (Rd.run_fail h).elim
  | store ty a x =>
    simp only [hop] at h ⊢
    have hav := hρ a
    split at h
    · rename_i id off sz e hsz; rw [e] at hav
      obtain ⟨o, l', ho, h2, _⟩ := Rd.run_look h
      split at h2
      · rename_i hcond
        simp only [Bool.and_eq_true, beq_iff_eq, decide_eq_true_eq, Bool.not_eq_true'] at hcond
        obtain ⟨⟨⟨hk, hl⟩, hle⟩, hfz⟩ := hcond
        have := Rd.run_pure h2; simp only [Prod.mk.injEq] at this; obtain ⟨rfl, rfl⟩ := this
        cases hu : ρ' a <;> rw [hu] at hav <;> cases hav
        rename_i b' sz' hβ'
        obtain ⟨w', p1, p2⟩ := Out.store (t := t) (g := g) hr ho hfz hβ' (hρ x) hk (off := off) (by rw [hl]; exact hle) (ty := ty) (by rw [hl]; exact hsz) (v0 := .tup []) (u0 := undef) (.tup _ _ _ rfl fun k y u hy => by simp at hy)
        exact ⟨undef, H, β, w', .inr ⟨by simp [Instr.storeAt, Instr.sureAddr, p1], rfl⟩, p2⟩
      · exact (Rd.run_fail h2).elim
    · exact (Rd.run_fail h).elim
  | nilCheck x =>
    simp only [hop] at h ⊢
    have hxv := hρ x
    split at h
    · rename_i id off e; rw [e] at hxv
      have := Rd.run_pure h; simp only [Prod.mk.injEq] at this; obtain ⟨rfl, rfl⟩ := this
      cases hu : ρ' x <;> rw [hu] at hxv <;> cases hxv
      rename_i b sz hβ'
      exact ⟨_, H, β, w, .inl rfl, Out.val hr (.lp _ _ _ b sz hβ')⟩
    · rename_i c off e; rw [e] at hxv
      have := Rd.run_pure h; simp only [Prod.mk.injEq] at this; obtain ⟨rfl, rfl⟩ := this
      cases hu : ρ' x <;> rw [hu] at hxv
      all_goals try (cases hxv; done)
      cases hxv with
      | fp _ _ _ b base arr ty fr h1 h2 h3 => exact ⟨_, H, β, w, .inl rfl, Out.val hr (.fp _ _ _ b base arr ty fr h1 h2 h3)⟩
    · rename_i f caps e; rw [e] at hxv
      have := Rd.run_pure h; simp only [Prod.mk.injEq] at this; obtain ⟨rfl, rfl⟩ := this
      cases hu : ρ' x <;> rw [hu] at hxv
      all_goals try (cases hxv; done)
      cases hxv with
      | fn _ _ _ _ h1 h2 => exact ⟨_, H, β, w, .inl rfl, Out.val hr (.fn _ _ _ _ h1 h2)⟩
    · exact (Rd.run_fail h).elim
  | binOp op ty x y ty2 =>
    simp only [hop] at h ⊢
    exact Done.val hr h fun v0 hv0 => vBin_sound (hρ x) (hρ y) hv0 x y w
  | unOp op ty x =>
    simp only [hop] at h ⊢
    exact Done.val hr h fun v0 hv0 => vUn_sound (hρ x) hv0 w
  | convert src dst x =>
    simp only [hop] at h ⊢
    have hxv := hρ x
    split at h
    · rename_i k1 k k2 n hs hd e; rw [e] at hxv
      cases hu : ρ' x <;> rw [hu] at hxv <;> cases hxv
      exact Done.pure hr h (u := .int k (k.wrap n)) (by simp [convert, run_underlying hs, run_underlying hd, Conv.intToInt]) (.int ..)
    · rename_i s hs hd e; rw [e] at hxv
      cases hu : ρ' x <;> rw [hu] at hxv <;> cases hxv
      exact Done.pure hr h (u := .string s) (by simp [convert, run_underlying hs, run_underlying hd]) (.str ..)
    · rename_i e s hs hd e1; rw [e1] at hxv
      cases hu : ρ' x <;> rw [hu] at hxv <;> cases hxv
      split at h
      · rename_i he hsz
        have := Rd.run_pure h; simp only [Prod.mk.injEq] at this; obtain ⟨rfl, rfl⟩ := this
        have hrun := run_bytes_of_string w src dst e s hs hd he
        have hge : s.size ≤ grownCap w s.size 0 e := by simp only [grownCap, Question.cut]; omega
        have hsize : (bytesRow s (grownCap w s.size 0 e)).size = grownCap w s.size 0 e := by
          have hds : s.data.size = s.size := rfl
          unfold bytesRow
          rw [Array.size_append, Array.size_map, Array.size_replicate, hds]; omega
        have hcr : CR P H β (bytesV s) (bytesRow s (grownCap w s.size 0 e)) 0 := by
          refine ⟨by rw [hsize]; simp [bytesV]; exact hge, fun k y u hy hu => ?_⟩
          simp only [bytesV, List.getElem?_map, Array.getElem?_toList] at hy
          simp only [Nat.zero_add] at hu
          cases hd : s.data[k]? with
          | none => simp [hd] at hy
          | some c =>
            have hlt : k < s.data.size := (Array.getElem?_eq_some_iff.1 hd).1
            simp [hd] at hy
            rw [bytesRow, Array.getElem?_append_left (by simpa using hlt)] at hu
            simp [hd] at hu
            subst hy; subst hu; exact .int ..
        have hfr : frok ((bytesRow s (grownCap w s.size 0 e)).size, (bytesRow s (grownCap w s.size 0 e)).size + 1) (bytesRow s (grownCap w s.size 0 e)).size := fun k hk => by simp; omega
        have hnew := Out.new (t := t) (g := g) hr.drew hβ hcr hfr (ty := e) (v := .sl (.own t g) 0 s.size e false) (u := .slice (some ⟨w.heap.size, 0, none⟩) s.size (grownCap w s.size 0 e))
          fun β' hle hb => .sl _ _ _ _ _ _ _ _ 1 _ hb hsz (by rw [hsize]; omega) hge (by simp)
        exact ⟨_, _, _, _, .inl (by simp [hrun]), hnew.before (Keep.drew _ _) rfl⟩
      · exact (Rd.run_fail h).elim
    · rename_i e hs hd
      split at h
      · rename_i he hsz
        obtain ⟨cs, l1, l2, h1, h2, _⟩ := Rd.run_bind h
        obtain ⟨n, l3, l4, h3, h4, _⟩ := Rd.run_bind h2
        obtain ⟨h3, _⟩ := Rd.run_opt h3
        split at h4
        · rename_i hcond
          simp only [Bool.and_eq_true, beq_iff_eq] at hcond
          obtain ⟨hall, hlen⟩ := hcond
          obtain ⟨A, cap, us, e1, e2, e3, e4⟩ := slCells_sound hr hxv h1 h3 (by omega) (Nat.one_pos)
          refine Done.pure hr h4 (u := .string ⟨(cs.map fun c => UInt8.ofNat (byteI c).toNat).toArray⟩) ?_ (.str ..)
          rw [e1]
          have hcs : ∀ (k : Nat) (u : Value), us[k]? = some u → u = .int .u8 ((cs.map byteI).getD k 0) := by
            intro k u hu
            have hk : k < us.size := (Array.getElem?_eq_some_iff.1 hu).1
            have hkc : k < cs.length := by rw [← e3.1]; exact hk
            have hv := e3.2 k cs[k] u (by simp [hkc]) hu
            have hb := List.all_eq_true.1 hall cs[k] (List.getElem_mem hkc)
            have hg : (cs.map byteI).getD k 0 = byteI cs[k] := by simp [List.getD, hkc]
            rw [hg]
            cases hck : cs[k] with
            | int kk n =>
              rw [hck] at hv hb
              cases kk <;> simp [byteOk] at hb
              cases hv; rfl
            | _ => rw [hck] at hb; simp [byteOk] at hb
          have hfst := e4 w rfl
          cases A with
          | none =>
            have hn0 : us = #[] := by simpa [e1, Builtin.firstCells] using hfst.symm
            have : cs = [] := by
              apply List.eq_nil_of_length_eq_zero
              rw [← e3.1, hn0]; rfl
            rw [run_convert_bytes_nil w src e hs he n cap dst hd, this]
            rfl
          | some a =>
            have hl : (loadCells a n).run P w = .ok ((cs.map byteI).map (Value.int .u8)).toArray w := by
              have : us = ((cs.map byteI).map (Value.int .u8)).toArray := by
                apply Array.ext_getElem?
                intro k
                by_cases hk : k < us.size
                · have := hcs k us[k] (by simp [hk])
                  have hkc : k < cs.length := by rw [← e3.1]; exact hk
                  simp [hk, hkc] at this ⊢
                  rw [this]
                · have hkc : ¬ k < cs.length := by rw [← e3.1]; exact hk
                  simp [Nat.not_lt.1 hk, Nat.not_lt.1 hkc]
              rw [← this]
              simpa [e1, Builtin.firstCells] using hfst
            rw [run_convert_bytes_string w src dst e _ n cap hs he hd, run_bytesToString w _ n cap _ hl, foldl_push_bytes]
            simp [ByteArray.empty, ByteArray.emptyWithCapacity]
            rfl
        · exact (Rd.run_fail h4).elim
      · exact (Rd.run_fail h).elim
    · exact (Rd.run_fail h).elim
  | makeFunc fn first captured =>
    cases fn with
    | func f =>
      simp only [hop] at h ⊢
      split at h
      · rename_i hf
        have hf' : first = #[] := by simpa using hf
        subst hf'
        refine Done.pure hr h (s := Instr.makeFunc (.func f) ((#[] : Array Operand).map ρ') (captured.map ρ')) (u := .func (.func f) #[] (captured.map ρ')) (by simp [Instr.makeFunc]) (.fn _ _ _ _ (by simp) fun k y u hy hu => RV_toList hρ captured k y u hy hu)
      · exact (Rd.run_fail h).elim
    | _ => simp only [hop] at h; exact (Rd.run_fail h).elim
  | slice ty x lo hi mx =>
    simp only [hop] at h ⊢
    obtain ⟨v, l1, l2, h1, h2, _⟩ := Rd.run_bind h
    obtain ⟨u, p1, p2⟩ := vSlice_sound hr (hρ x) (OV_map hρ lo) (OV_map hρ hi) (OV_map hρ mx) h1 w
    exact Done.pure hr h2 p1 p2
  | fieldAddr st x f =>
    simp only [hop] at h ⊢
    have hxv := hρ x
    split at h
    · rename_i fields hu
      split at h
      · rename_i fd hfd
        split at h
        · rename_i sz hsz
          split at h
          · exact (Rd.run_fail h).elim
          · rename_i hs0
            have hplace : ∀ (b off : Nat), (fieldPlace ⟨b, off, none⟩ fd).run P w = .ok ⟨b, off + fd.offset, none⟩ w := by
              intro b off
              simp [fieldPlace, run_sizeOf hsz, hs0, add_none]
            split at h
            · rename_i id off e; rw [e] at hxv
              cases hq : ρ' x <;> rw [hq] at hxv <;> cases hxv
              rename_i b sz' hβ'
              exact Done.pure hr h (by simp [Instr.fieldAt, run_underlying hu, hfd, Instr.sureAddr, hplace]) (.lp _ _ _ b sz' hβ')
            · rename_i c off e; rw [e] at hxv
              cases hq : ρ' x <;> rw [hq] at hxv
              all_goals try (cases hxv; done)
              cases hxv with
              | fp _ _ _ b base arr ty fr h1 h2 h3 =>
                refine Done.pure hr h (u := .pointer (some ⟨b, base + (off + fd.offset), none⟩)) ?_ (.fp _ _ _ b base arr ty fr h1 h2 h3)
                simp [Instr.fieldAt, run_underlying hu, hfd, Instr.sureAddr, hplace, Nat.add_assoc]
            · exact (Rd.run_fail h).elim
        · exact (Rd.run_fail h).elim
      · exact (Rd.run_fail h).elim
    · exact (Rd.run_fail h).elim
  | field ty x f =>
    simp only [hop] at h ⊢
    have hxv := hρ x
    split at h
    · rename_i fields cs hu e; rw [e] at hxv
      split at h
      · rename_i fd hfd
        refine Done.val hr h fun v0 hv0 => ?_
        cases hq : ρ' x <;> rw [hq] at hxv
        all_goals try (cases hxv; done)
        obtain ⟨c1, c2⟩ := CR_of_agg hxv
        obtain ⟨u, p1, p2⟩ := run_part c1 c2 hv0 w
        exact ⟨u, by simp [Instr.field, run_underlying hu, hfd, asAgg, p1], p2⟩
      · exact (Rd.run_fail h).elim
    · exact (Rd.run_fail h).elim
  | indexAddr ty x i =>
    simp only [hop] at h ⊢
    exact Done.val hr h fun v0 hv0 => vIndexAddr_sound (hρ x) (hρ i) hv0 w
  | index ty x i =>
    simp only [hop] at h ⊢
    exact Done.val hr h fun v0 hv0 => vIndex_sound (hρ x) (hρ i) hv0 w
  | extract x i =>
    simp only [hop] at h ⊢
    have hxv := hρ x
    split at h
    · rename_i l0 e; rw [e] at hxv
      refine Done.val hr h fun v0 hv0 => ?_
      cases hq : ρ' x <;> rw [hq] at hxv
      all_goals try (cases hxv; done)
      cases hxv with
      | tup _ _ _ hn hc =>
        rename_i cs
        have hlt : i < l0.length := (List.getElem?_eq_some_iff.1 hv0).1
        have hci : cs[i]? = some (cs[i]'(by omega)) := by simp
        exact ⟨_, by simp [Instr.extract, hci], hc i v0 _ hv0 hci⟩
    · exact (Rd.run_fail h).elim
  | call c =>
    simp only [hop] at h ⊢
    have hcal := hc c
    have harg : ∀ (k : Nat) (y : V) (u : Value), (c.args.toList.map ρ)[k]? = some y → (c.args.map ρ')[k]? = some u → RV P H β y u := fun k y u => RV_toList hρ c.args k y u
    have hasz : (c.args.map ρ').size = (c.args.toList.map ρ).length := by simp
    cases hcc : c.callee with
    | value f => exact absurd hcc (hcal f hop)
    | invoke x y => simp only [hcc] at h; exact (Rd.run_fail h).elim
    | builtin bi =>
      obtain ⟨cns, hres⟩ : ∃ cns, (resolve ρ' c o.type).run P w = .ok { target := .builtin bi c.argTypes o.type cns, args := c.args.map ρ' } w := ⟨_, by simp only [resolve, hcc]; rfl⟩
      generalize hA : c.args.map ρ' = A at harg hasz hres
      generalize hL : c.args.toList.map ρ = L at harg hasz h
      cases bi <;> simp only [hcc] at h
      all_goals try (exact (Rd.run_fail h).elim)
      · -- append
        split at h
        · rename_i ty ty2 s x e1
          obtain ⟨a0, a1, rfl⟩ : ∃ a0 a1, A = #[a0, a1] := by
            obtain ⟨l⟩ := A
            simp at hasz
            match l, hasz with
            | [p, q], _ => exact ⟨p, q, rfl⟩
          have ht : c.argTypes = #[ty, ty2] := by apply Array.ext'; simpa using e1
          split at h
          · exact (Rd.run_fail h).elim
          · exact (Rd.run_fail h).elim
          · rename_i d2 hd2 hu2
            obtain ⟨u, H', β', w', p1, p2⟩ := vAppend_sound (rt := o.type) hu2 (fun k e => hd2 k e) hr hβ (harg 0 _ _ rfl rfl) (harg 1 _ _ rfl rfl) h
            have p1' : (Builtin.append_ #[ty, ty2] o.type #[a0, a1]).run P w = .ok u w' := p1
            exact ⟨u, H', β', w', .inl (by simp [hres, invoke, builtin, ht, p1']), p2⟩
        · exact (Rd.run_fail h).elim
      · -- len
        split at h
        · rename_i ty l1 v l2 e1
          obtain ⟨a0, l, hl⟩ : ∃ a0 l, A.toList = a0 :: l := by
            obtain ⟨l⟩ := A
            cases l with
            | nil => simp at hasz
            | cons p q => exact ⟨p, q, rfl⟩
          have h0 : A[0]? = some a0 := by rw [← Array.getElem?_toList, hl]; rfl
          have ht0 : c.argTypes[0]? = some ty := by rw [← Array.getElem?_toList, e1]; rfl
          have hv := harg 0 v a0 rfl h0
          have hslg := slLen_val hv
          split at h
          · rename_i s hu
            cases hv
            have := Rd.run_pure h; simp only [Prod.mk.injEq] at this; obtain ⟨rfl, rfl⟩ := this
            exact ⟨_, H, β, w, .inl (by simp [hres, invoke, builtin, Builtin.len_, ht0, h0, run_underlying hu]; rfl), Out.val hr (.int ..)⟩
          · rename_i n _ hu
            have := Rd.run_pure h; simp only [Prod.mk.injEq] at this; obtain ⟨rfl, rfl⟩ := this
            exact ⟨_, H, β, w, .inl (by simp [hres, invoke, builtin, Builtin.len_, ht0, h0, run_underlying hu]; rfl), Out.val hr (.int ..)⟩
          · rename_i e hu
            obtain ⟨v0, l3, l4, h1, h2, _⟩ := Rd.run_bind h
            obtain ⟨h1, _⟩ := Rd.run_opt h1
            have := Rd.run_pure h2; simp only [Prod.mk.injEq] at this; obtain ⟨rfl, rfl⟩ := this
            obtain ⟨n, h1a, h1b⟩ := Option.map_eq_some_iff.1 h1
            subst h1b
            obtain ⟨A', cap, rfl⟩ := hslg n h1a
            exact ⟨_, H, β, w, .inl (by simp [hres, invoke, builtin, Builtin.len_, ht0, h0, run_underlying hu]; rfl), Out.val hr (.int ..)⟩
          · exact (Rd.run_fail h).elim
        · exact (Rd.run_fail h).elim
      · -- max
        split at h
        · rename_i v l1
          obtain ⟨a0, l, hl⟩ : ∃ a0 l, A.toList = a0 :: l := by
            obtain ⟨l⟩ := A
            cases l with
            | nil => simp at hasz
            | cons p q => exact ⟨p, q, rfl⟩
          have hgl : ∀ k, A[k]? = (a0 :: l)[k]? := fun k => by rw [← Array.getElem?_toList, hl]
          obtain ⟨v0, l3, l4, h1, h2, _⟩ := Rd.run_bind h
          obtain ⟨h1, _⟩ := Rd.run_opt h1
          have := Rd.run_pure h2; simp only [Prod.mk.injEq] at this; obtain ⟨rfl, rfl⟩ := this
          obtain ⟨u, p1, p2⟩ := vMax_sound w l1 v v0 a0 l (harg 0 v a0 rfl (by rw [hgl]; rfl)) (by rw [← Array.length_toList, hl] at hasz; simpa using hasz) (fun k y u hy hu => harg (k + 1) y u (by simpa using hy) (by rw [hgl]; simpa using hu)) h1
          exact ⟨u, H, β, w, .inl (by simp [hres, invoke, builtin, Builtin.max_, hl, p1]), Out.val hr p2⟩
        · exact (Rd.run_fail h).elim
      · -- min
        split at h
        · rename_i v l1
          obtain ⟨a0, l, hl⟩ : ∃ a0 l, A.toList = a0 :: l := by
            obtain ⟨l⟩ := A
            cases l with
            | nil => simp at hasz
            | cons p q => exact ⟨p, q, rfl⟩
          have hgl : ∀ k, A[k]? = (a0 :: l)[k]? := fun k => by rw [← Array.getElem?_toList, hl]
          obtain ⟨v0, l3, l4, h1, h2, _⟩ := Rd.run_bind h
          obtain ⟨h1, _⟩ := Rd.run_opt h1
          have := Rd.run_pure h2; simp only [Prod.mk.injEq] at this; obtain ⟨rfl, rfl⟩ := this
          obtain ⟨u, p1, p2⟩ := vMin_sound w l1 v v0 a0 l (harg 0 v a0 rfl (by rw [hgl]; rfl)) (by rw [← Array.length_toList, hl] at hasz; simpa using hasz) (fun k y u hy hu => harg (k + 1) y u (by simpa using hy) (by rw [hgl]; simpa using hu)) h1
          exact ⟨u, H, β, w, .inl (by simp [hres, invoke, builtin, Builtin.min_, hl, p1]), Out.val hr p2⟩
        · exact (Rd.run_fail h).elim
  | _ => simp only [hop] at h; exact (Rd.run_fail h).elim
end
end Go.Vi
