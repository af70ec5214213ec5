/- The functions of the part 'Hydro' do what they are said to do. -/
import Derived.Test.YtbejkehbfdcaaaaDoorZHydroV
import Derived.Test.YtbejkehbfdcaaaaDoorZElemP
set_option linter.unusedVariables false
namespace Go.Proofs.YtbejkehbfdcaaaaDoor
open Go Go.Vi
set_option maxRecDepth 100000
set_option maxHeartbeats 1000000
theorem Lower_ok : SpecOk Tryd.prog E 24 LowerPT := spec .nil (by kernel_rfl) fun args bo Q h => by
  obtain ⟨rfl, rfl, h⟩ := h
  rw [Lower_vc]
  exact h
theorem Upper_ok : SpecOk Tryd.prog E 26 UpperPT := spec .nil (by kernel_rfl) fun args bo Q h => by
  obtain ⟨rfl, rfl, h⟩ := h
  rw [Upper_vc]
  exact h
theorem Residual_ok : SpecOk Tryd.prog E 25 ResidualPT := spec (.cons Find_ok .nil) (by kernel_rfl) fun args bo Q h => by
  obtain ⟨h0, t, a, c, f, l, rfl, rfl, hl, hf, h⟩ := h
  rw [Residual_vc]
  have no : (okV l h0 && (okV l t && (okV l a && okV l c))) = false → Q (.tup [.int .i64 0, .bool false]) [] [] := by
    intro e
    unfold resF at h
    rw [if_neg (by rw [e]; simp)] at h
    exact h
  refine ⟨l, h0, rfl, rfl, hl, BIF_n (fun e => no (by rw [okV_n1 e]; rfl)) (fun a1 => BIF_d (fun e => no (by rw [okV_n2 e]; rfl)) (fun a2 => BIF_d (fun e => no (by rw [okV_n3 e]; rfl)) (fun a3 => ?_)))⟩
  have y1 := okV_y a1 a2 a3
  refine ⟨l, t, rfl, rfl, hl, BIF_n (fun e => no (by rw [okV_n1 (c := t) e]; simp)) (fun a1 => BIF_d (fun e => no (by rw [okV_n2 (c := t) e]; simp)) (fun a2 => BIF_d (fun e => no (by rw [okV_n3 (c := t) e]; simp)) (fun a3 => ?_)))⟩
  have y2 := okV_y a1 a2 a3
  refine ⟨l, a, rfl, rfl, hl, BIF_n (fun e => no (by rw [okV_n1 (c := a) e]; simp)) (fun a1 => BIF_d (fun e => no (by rw [okV_n2 (c := a) e]; simp)) (fun a2 => BIF_d (fun e => no (by rw [okV_n3 (c := a) e]; simp)) (fun a3 => ?_)))⟩
  have y3 := okV_y a1 a2 a3
  refine ⟨l, c, rfl, rfl, hl, BIF_n (fun e => no (by rw [okV_n1 (c := c) e]; simp)) (fun a1 => BIF_d (fun e => no (by rw [okV_n2 (c := c) e]; simp)) (fun a2 => BIF_d (fun e => no (by rw [okV_n3 (c := c) e]; simp)) (fun a3 => ?_)))⟩
  have y4 := okV_y a1 a2 a3
  unfold resF at h
  rw [if_pos (by rw [y1, y2, y3, y4]; rfl)] at h
  have b1 := okV_in y1
  have b2 := okV_in y2
  have b3 := okV_in y3
  have b4 := okV_in y4
  rcases hf with rfl | rfl
  · exact ⟨by omega, by omega, by omega, by omega, by omega, h⟩
  · exact ⟨by omega, by omega, by omega, by omega, by omega, h⟩
theorem Residuals_ok : SpecOk Tryd.prog E 15 ResidualsPT := spec (.cons Lower_ok (.cons Upper_ok (.cons Residual_ok .nil))) (by kernel_rfl) fun args bo Q h => by
  obtain ⟨l, rfl, rfl, hl, h⟩ := h
  rw [Residuals_vc]
  exact ⟨rfl, rfl, 6, 7, 8, 9, 5683, l, rfl, rfl, hl, .inl rfl, rfl, rfl, 8, 9, 10, 11, 9848, l, rfl, rfl, hl, .inr rfl, h⟩
theorem Size_ok : SpecOk Tryd.prog E 19 SizePT := spec .nil (by kernel_rfl) fun args bo Q h => by
  obtain ⟨n, rfl, rfl, h1, h2, h⟩ := h
  rw [Size_vc, szF_eq]
  exact ⟨by omega, h⟩
theorem Both_ok : SpecOk Tryd.prog E 20 BothPT := spec (.cons Size_ok .nil) (by kernel_rfl) fun args bo Q h => by
  obtain ⟨a, b, m, rfl, rfl, a1, a2, b1, b2, m1, m2, h⟩ := h
  rw [Both_vc]
  refine ⟨by omega, a + b, rfl, rfl, by omega, by omega, by omega, by omega, by omega, by omega, 9848 * a - 5683 * b, rfl, rfl, by omega, by omega, by omega, ?_⟩
  have e : (9848 * 20000 * m : Int) = 196960000 * m := by omega
  unfold bothF at h
  rw [e] at h
  refine BIF_d (fun h1 => BIF_n (fun h2 => ?_) (fun h2 => BIF_d (fun h3 => BIF_n (fun h4 => ?_) (fun h4 => ?_)) (fun h3 => ?_))) (fun h1 => BIF_d (fun h3 => BIF_n (fun h4 => ?_) (fun h4 => ?_)) (fun h3 => ?_))
  · rw [if_pos ⟨h1, of_decide_eq_false h2⟩] at h; exact h
  · exact absurd h1 (of_decide_eq_false h4)
  · rw [if_neg (fun hh => hh.2 h3), if_neg (fun hh => hh.2 h1)] at h; exact h
  · exact absurd (of_decide_eq_true h2) h3
  · rw [if_neg (fun hh => h1 hh.1), if_pos ⟨h3, h1⟩] at h; exact h
  · exact absurd (of_decide_eq_true h4) h1
  · rw [if_neg (fun hh => h1 hh.1), if_neg (fun hh => h3 hh.1)] at h; exact h
theorem CheckH_ok : SpecOk Tryd.prog E 9 CheckHPT := spec (.cons Validate_ok (.cons Residuals_ok (.cons Size_ok (.cons Both_ok .nil)))) (by kernel_rfl) fun args bo Q h => by
  obtain ⟨l, m, rfl, rfl, hl, h⟩ := h
  rw [CheckH_vc]
  have b1 := resF_in (h := 6) (t := 7) (a := 8) (c := 9) (l := l) (.inl rfl : (5683 : Int) = 5683 ∨ (5683 : Int) = 9848)
  have b2 := resF_in (h := 8) (t := 9) (a := 10) (c := 11) (l := l) (.inr rfl : (9848 : Int) = 5683 ∨ (9848 : Int) = 9848)
  have bad : m < 0 ∨ m > 1000 → Q (.tup [.fs [], .int .i64 1]) [] [] := by
    intro hm
    have e : chE l m = 1 := by unfold chE; rw [if_pos hm]
    unfold chL at h
    rw [e, if_pos (by decide)] at h
    exact h
  refine BIF_d (fun h1 => bad (.inl h1)) (fun h1 => BIF_d (fun h2 => bad (.inr h2)) (fun h2 => ⟨l, rfl, rfl, hl, BIF_ne (fun h3 => ?_) (fun h3 => ?_)⟩))
  · have e : chE l m = valF l := by unfold chE; rw [if_neg (by omega)]
    unfold chL at h
    rw [e, if_pos h3] at h
    exact h
  · have e : chE l m = 0 := by unfold chE; rw [if_neg (by omega), h3]
    unfold chL at h
    rw [e, if_neg (by decide)] at h
    have c1 : -10000000000 ≤ (loF l).1 ∧ (loF l).1 ≤ 10000000000 := b1
    have c2 : -10000000000 ≤ (upF l).1 ∧ (upF l).1 ≤ 10000000000 := b2
    refine ⟨l, rfl, rfl, hl, (loF l).1, rfl, rfl, by omega, by omega, by omega, (upF l).1, rfl, rfl, by omega, by omega, by omega, ?_⟩
    by_cases hA : szF (loF l).1 > 20000 * m <;> by_cases hB : szF (upF l).1 > 20000 * m
    · rw [if_pos ⟨hA, hB⟩] at h
      simp only [decide_eq_true hA, decide_eq_true hB, BIF]
      exact ⟨_, _, _, rfl, trivial, c1.1, c1.2, c2.1, c2.2, by omega, by omega, h⟩
    · rw [if_neg (fun hh => hB hh.2), if_pos hA] at h
      simp only [decide_eq_true hA, decide_eq_false hB, BIF]
      cases hU : (upF l).2 <;> rw [hU] at h <;> exact h
    · rw [if_neg (fun hh => hA hh.1), if_neg hA, if_pos hB] at h
      simp only [decide_eq_false hA, decide_eq_true hB, BIF]
      cases hU : (loF l).2 <;> rw [hU] at h <;> exact h
    · rw [if_neg (fun hh => hA hh.1), if_neg hA, if_neg hB] at h
      simp only [decide_eq_false hA, decide_eq_false hB, BIF]
      exact h
end Go.Proofs.YtbejkehbfdcaaaaDoor
