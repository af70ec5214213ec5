/- Vi, part 4: the operators: what they give of abstract values they give of values. -/
import Derived.Test.YtbiifkfehfapkaaDoorVi3
import Derived.Laws.StructEq
import Derived.ChangeKeysEq
set_option linter.unusedVariables false
set_option linter.unusedSimpArgs false
namespace Go.Vi
section
variable {P : Program} {H : Hp} {β : Bt}

theorem CR_of_agg {l : List V} {cs : Array Value} (h : RV P H β (.agg l) (.agg cs)) : cs.size = l.length ∧ CR P H β l cs 0 := by
  cases h with
  | agg _ _ _ hn hc => exact ⟨hn, by simp; omega, fun k y u hy hu => hc k y u hy (by simpa using hu)⟩

theorem vEq_sound : ∀ (d e : Nat) (t : TypeId) (x y : V) (a b : Value) (r : Bool) (w : World), RV P H β x a → RV P H β y b → vEq P d t x y = some r → (Op.equalIn (d + e) t a b).run P w = .ok r w := by
  intro d
  induction d with
  | zero => intro e t x y a b r w _ _ h; simp [vEq] at h
  | succ d ih =>
    intro e t x y a b r w hx hy h
    rw [show d + 1 + e = (d + e) + 1 by omega]
    simp only [vEq] at h
    split at h
    · rename_i hu
      cases hx; cases hy
      simp only [Option.some.injEq] at h; subst h
      exact run_equalIn_bool w _ t _ _ hu
    · rename_i k1 k x1 k' y1 hu
      cases hx; cases hy
      split at h
      · rename_i e'; subst e'
        simp only [Option.some.injEq] at h; subst h
        exact run_equalIn_int w _ t _ _ _ _ hu
      · simp at h
    · rename_i s1 s2 hu
      cases hx; cases hy
      simp only [Option.some.injEq] at h; subst h
      rw [beq_toListBytes]
      exact run_equalIn_string w _ t _ _ hu
    · rename_i fields xs ys hu
      split at h
      · simp at h
      · rename_i hst
        have hst' : P.stoodInHeld t = false := by simpa using hst
        cases hx with
        | agg _ _ cs hn hc =>
        cases hy with
        | agg _ _ ds hm hd =>
          have hf : P.fieldsOf t = fields := by simp [Program.fieldsOf, hu]
          rw [run_equalIn_struct w _ t _ _ (by rw [hf]; exact hu) hst', hf]
          obtain ⟨c1, c2⟩ := CR_of_agg (.agg _ _ _ hn hc)
          obtain ⟨d1, d2⟩ := CR_of_agg (.agg _ _ _ hm hd)
          clear hu hf hst hst'
          generalize fields.toList = fs at h
          induction fs generalizing r with
          | nil => simp only [vFlds, Option.some.injEq] at h; subst h; simp [Op.eqFields]
          | cons f fs ihf =>
            simp only [vFlds] at h
            simp only [Op.eqFields]
            split
            · rename_i hn'
              rw [if_pos hn'] at h
              split at h
              · rename_i va vb h1 h2
                obtain ⟨ua, pa, ra⟩ := run_part c1 c2 h1 w
                obtain ⟨ub, pb, rb⟩ := run_part d1 d2 h2 w
                split at h
                · rename_i h3
                  have := ih e f.type va vb ua ub true w ra rb h3
                  simp only [Sem.run_bind, pa, pb, this, Result.andThen_ok]
                  simpa using ihf r h
                · rename_i h3
                  have := ih e f.type va vb ua ub r w ra rb h
                  cases r with
                  | false => simp [pa, pb, this]
                  | true => exact absurd h h3
              · simp at h
            · rename_i hn'
              rw [if_neg hn'] at h
              exact ihf r h
    · rename_i len elem xs ys hu
      split at h
      · rename_i n hn0
        cases hx with
        | agg _ _ cs hn hc =>
        cases hy with
        | agg _ _ ds hm hd =>
          unfold szT at hn0
          cases hi : P.info? elem with
          | none => simp [hi] at hn0
          | some i =>
            rw [run_equalIn_array w _ cs ds hu hi]
            have hcz : P.cellsOf elem = n := by simp [hi] at hn0; simp [Program.cellsOf, hi, hn0]
            rw [hcz]
            obtain ⟨c1, c2⟩ := CR_of_agg (.agg _ _ _ hn hc)
            obtain ⟨d1, d2⟩ := CR_of_agg (.agg _ _ _ hm hd)
            have key : ∀ m j r, vElems P (vEq P d) elem n xs ys m j = some r → (Op.eqItems (d + e) elem n cs ds (List.range' j m)).run P w = .ok r w := by
              intro m
              induction m with
              | zero => intro j r h; simp only [vElems, Option.some.injEq] at h; subst h; simp [Op.eqItems]
              | succ m ihm =>
                intro j r h
                simp only [vElems] at h
                simp only [List.range'_succ, Op.eqItems]
                split at h
                · rename_i va vb h1 h2
                  obtain ⟨ua, pa, ra⟩ := run_part c1 c2 h1 w
                  obtain ⟨ub, pb, rb⟩ := run_part d1 d2 h2 w
                  split at h
                  · rename_i h3
                    have := ih e elem va vb ua ub true w ra rb h3
                    simp only [Sem.run_bind, pa, pb, this, Result.andThen_ok]
                    simpa using ihm (j + 1) r h
                  · rename_i h3
                    have := ih e elem va vb ua ub r w ra rb h
                    cases r with
                    | false => simp [pa, pb, this]
                    | true => exact absurd h h3
                · simp at h
            rw [List.range_eq_range']
            exact key len 0 r h
      · simp at h
    · simp at h

theorem vInt_sound {op : BinOp} {k : IntKind} {a b : Int} {v : V} (h : vInt op k a b = some v) (hs : op ≠ .shl) (hs' : op ≠ .shr) (t : TypeId) (w : World) :
    ∃ u, (binOp op t (.int k a) (.int k b)).run P w = .ok u w ∧ RV P H β v u := by
  cases op <;> simp only [vInt, Option.some.injEq] at h <;> try (simp at hs; done)
  all_goals (try (simp at hs'; done))
  all_goals first
    | (subst h; refine ⟨_, ?_, by constructor⟩; simp [binOp, Op.intArith, Op.intBits, Op.intCmp]; done)
    | (subst h; refine ⟨_, ?_, by constructor⟩; simp [binOp, Op.intArith, Op.intBits, Op.intCmp]; rfl)
    | (split at h
       · simp at h
       · rename_i hb
         simp only [Option.some.injEq] at h
         subst h; refine ⟨_, ?_, by constructor⟩; simp [binOp, Op.intDiv, hb]; done)
    | (simp at h; done)

theorem vStr_sound {op : BinOp} {x y : ByteArray} {v : V} (h : vStr op x y = some v) (t : TypeId) (w : World) :
    ∃ u, (binOp op t (.string x) (.string y)).run P w = .ok u w ∧ RV P H β v u := by
  cases op <;> simp only [vStr, Option.some.injEq] at h
  all_goals first
    | (subst h; refine ⟨_, ?_, by constructor⟩; simp [binOp, Op.stringOp]; done)
    | (split at h
       · rename_i hb
         simp only [Option.some.injEq] at h
         subst h; refine ⟨.string (x ++ y), ?_, by constructor⟩
         have hm : ¬ (((x.size + y.size : Nat) : Int) > IntKind.i64.max) := by
           have : IntKind.i64.max = 9223372036854775807 := by decide
           rw [this]; omega
         simp only [binOp, Op.stringOp, hm, if_false]
         rfl
       · simp at h)
    | (simp at h; done)

theorem vBin_sound {op : BinOp} {t : TypeId} {x y v : V} {a b : Value} (hx : RV P H β x a) (hy : RV P H β y b) (h : vBin P op t x y = some v) (ox oy : Operand) (w : World) :
    ∃ u, (do eqGuard op t ox oy a b; binOp op t a b : Sem Value).run P w = .ok u w ∧ RV P H β v u := by
  have g0 : ∀ {a b : Value}, (match a, b with | .nilIface, .nilIface => False | .agg _, .agg _ => False | _, _ => True) → (eqGuard op t ox oy a b).run P w = .ok () w := by
    intro a b hab
    unfold eqGuard
    cases op <;> simp <;> (cases a <;> cases b <;> simp at hab ⊢)
  unfold vBin at h
  split at h
  · cases hx; cases hy
    split at h
    · simp at h
    · rename_i hb
      simp only [Option.some.injEq] at h; subst h
      refine ⟨_, ?_, by constructor⟩
      simp [g0, binOp, Op.shift, hb]
  · cases hx; cases hy
    split at h
    · simp at h
    · rename_i hb
      simp only [Option.some.injEq] at h; subst h
      refine ⟨_, ?_, by constructor⟩
      simp [g0, binOp, Op.shift, hb]
  · rename_i k1 a1 k2 b1 n1 n2
    cases hx; cases hy
    split at h
    · rename_i e; subst e
      obtain ⟨u, h1, h2⟩ := vInt_sound (P := P) (H := H) (β := β) h (fun e => n1 e) (fun e => n2 e) t w
      exact ⟨u, by simp [g0, h1], h2⟩
    · simp at h
  · cases hx; cases hy
    obtain ⟨u, h1, h2⟩ := vStr_sound (P := P) (H := H) (β := β) h t w
    exact ⟨u, by simp [g0, h1], h2⟩
  · rename_i p q
    cases hr : vEq P 9 t (.bool p) (.bool q) with
    | none => simp [hr] at h
    | some r =>
      simp [hr] at h; subst h
      have := vEq_sound (P := P) 9 9991 t _ _ _ _ r w hx hy hr
      cases hx; cases hy
      refine ⟨_, ?_, by constructor⟩
      simp only [Sem.run_bind, g0 (a := .bool _) (b := .bool _) trivial, Result.andThen_ok, binOp, Op.equal, Op.maxDepth, this]
      rfl
  · rename_i p q
    cases hr : vEq P 9 t (.bool p) (.bool q) with
    | none => simp [hr] at h
    | some r =>
      simp [hr] at h; subst h
      have := vEq_sound (P := P) 9 9991 t _ _ _ _ r w hx hy hr
      cases hx; cases hy
      refine ⟨_, ?_, by constructor⟩
      simp only [Sem.run_bind, g0 (a := .bool _) (b := .bool _) trivial, Result.andThen_ok, binOp, Op.equal, Op.maxDepth, this]
      rfl
  · rename_i p q
    split at h
    · simp at h
    · rename_i hg
      cases hr : vEq P 9 t (.agg p) (.agg q) with
      | none => simp [hr] at h
      | some r =>
        simp [hr] at h; subst h
        have := vEq_sound (P := P) 9 9991 t _ _ _ _ r w hx hy hr
        cases hx; cases hy
        refine ⟨.bool r, ?_, by constructor⟩
        simp only [Sem.run_bind, run_eqGuard_agg w .eql t ox oy _ _ (by simpa using hg), Result.andThen_ok, run_eql_struct, this]
  · rename_i p q
    split at h
    · simp at h
    · rename_i hg
      cases hr : vEq P 9 t (.agg p) (.agg q) with
      | none => simp [hr] at h
      | some r =>
        simp [hr] at h; subst h
        have := vEq_sound (P := P) 9 9991 t _ _ _ _ r w hx hy hr
        cases hx; cases hy
        refine ⟨.bool !r, ?_, by constructor⟩
        simp only [Sem.run_bind, run_eqGuard_agg w .neq t ox oy _ _ (by simpa using hg), Result.andThen_ok, run_neq_struct, this]
  · simp at h

theorem vUn_sound {op : UnOp} {x v : V} {a : Value} (hx : RV P H β x a) (h : vUn op x = some v) (w : World) : ∃ u, (Op.unary op a).run P w = .ok u w ∧ RV P H β v u := by
  unfold vUn at h
  split at h
  · cases hx
    simp only [Option.some.injEq] at h; subst h
    exact ⟨_, rfl, .int ..⟩
  · cases hx
    simp only [Option.some.injEq] at h; subst h
    exact ⟨_, by simp [Op.unary]; rfl, by constructor⟩
  · simp at h

theorem vMax_sound (w : World) : ∀ (l : List V) (x v : V) (a : Value) (bs : List Value), RV P H β x a → bs.length = l.length → (∀ (k : Nat) (y : V) (u : Value), l[k]? = some y → bs[k]? = some u → RV P H β y u) → vMax x l = some v →
    ∃ u, (bs.foldlM Builtin.max2 a : Sem Value).run P w = .ok u w ∧ RV P H β v u
  | [], x, v, a, bs, hx, hl, hr, h => by
    obtain rfl : bs = [] := List.eq_nil_of_length_eq_zero hl
    simp only [vMax, Option.some.injEq] at h; subst h
    exact ⟨a, by simp, hx⟩
  | y :: l, x, v, a, bs, hx, hl, hr, h => by
    cases bs with
    | nil => simp at hl
    | cons b bs =>
      have hy := hr 0 y b rfl rfl
      cases x <;> cases y <;> simp only [vMax, reduceCtorEq] at h
      cases hx; cases hy
      obtain ⟨u, h1, h2⟩ := vMax_sound w l _ v _ bs (.int β _ _) (by simpa using hl) (fun k y u hk hu => hr (k + 1) y u (by simpa using hk) (by simpa using hu)) h
      refine ⟨u, ?_, h2⟩
      simp only [List.foldlM_cons, Sem.run_bind, Builtin.max2, Sem.run_pure, Result.andThen_ok]
      exact h1

theorem vMin_sound (w : World) : ∀ (l : List V) (x v : V) (a : Value) (bs : List Value), RV P H β x a → bs.length = l.length → (∀ (k : Nat) (y : V) (u : Value), l[k]? = some y → bs[k]? = some u → RV P H β y u) → vMin x l = some v →
    ∃ u, (bs.foldlM Builtin.min2 a : Sem Value).run P w = .ok u w ∧ RV P H β v u
  | [], x, v, a, bs, hx, hl, hr, h => by
    obtain rfl : bs = [] := List.eq_nil_of_length_eq_zero hl
    simp only [vMin, Option.some.injEq] at h; subst h
    exact ⟨a, by simp, hx⟩
  | y :: l, x, v, a, bs, hx, hl, hr, h => by
    cases bs with
    | nil => simp at hl
    | cons b bs =>
      have hy := hr 0 y b rfl rfl
      cases x <;> cases y <;> simp only [vMin, reduceCtorEq] at h
      cases hx; cases hy
      obtain ⟨u, h1, h2⟩ := vMin_sound w l _ v _ bs (.int β _ _) (by simpa using hl) (fun k y u hk hu => hr (k + 1) y u (by simpa using hk) (by simpa using hu)) h
      refine ⟨u, ?_, h2⟩
      simp only [List.foldlM_cons, Sem.run_bind, Builtin.min2, Sem.run_pure, Result.andThen_ok]
      exact h1
end
end Go.Vi
