/- The functions of the part 'Ref02' do what they are said to do. -/
import Derived.Test.YtbiifkfehfapkaaDoorZRef02V
import Derived.Test.YtbiifkfehfapkaaDoorZPlaceP
set_option linter.unusedVariables false
namespace Go.Proofs.YtbiifkfehfapkaaDoor
open Go Go.Vi
set_option maxRecDepth 100000
set_option maxHeartbeats 1000000
theorem Across_ok : SpecOk Tryd.prog E 20 AcrossPT := spec (.cons Face_ok (.cons Addresses_ok .nil)) (by kernel_rfl) fun args bo Q h => by
  obtain ⟨n, k, rfl, rfl, h⟩ := h
  rw [Across_vc]
  have no : ¬ (okF n = true ∧ 0 ≤ k ∧ k ≤ 2) → Q (.tup [.int .i64 0, .int .i64 1]) [] [] := by
    intro hn
    unfold acrF at h
    rw [if_neg (by simpa only [Bool.and_eq_true, decide_eq_true_eq] using hn)] at h
    exact h
  refine ⟨n, rfl, rfl, BIF_n (fun h1 => no (by simp [h1])) (fun h1 => BIF_d (fun h2 => no (by omega)) (fun h2 => BIF_d (fun h3 => no (by omega)) (fun h3 => ⟨fun _ p => p = midP n k, ?_, ?_⟩)))⟩
  · refine BIF_e (fun e => ⟨_, rfl, rfl, ?_, trivial⟩) (fun e1 => BIF_e (fun e => ⟨_, rfl, rfl, ?_, trivial⟩) (fun e2 => ⟨_, rfl, rfl, ?_, trivial⟩))
    · subst e; rfl
    · subst e; rfl
    · obtain rfl : k = 2 := by omega
      rfl
  · rintro p rfl
    have hok : okP (midP n k) = true := by
      have h1 := okF_iff.1 h1
      rw [okP_iff]
      simp only [midP]
      have : k = 0 ∨ k = 1 ∨ k = 2 := by omega
      rcases this with rfl | rfl | rfl <;> simp <;> omega
    have hF : addrF (midP n k) = (addrK (midP n k) 20, 0) := by simp [addrF, hok]
    unfold acrF at h
    rw [if_pos (by simp [h1]; omega)] at h
    refine ⟨midP n k, rfl, rfl, ?_⟩
    rw [hF]
    dsimp only
    refine ⟨fun _ i => i ≤ (addrK (midP n k) 20).length ∧ ∀ j q, j < i → (addrK (midP n k) 20)[j]? = some q → q.f = n, fun _ i => (addrK (midP n k) 20).length - i, ⟨0, ⟨Nat.zero_le _, fun j q hj => by omega⟩, rfl, trivial⟩, fun i ⟨hi, hno⟩ => BIF_d (fun h4 => ?_) (fun h4 => ?_)⟩
    · rw [View.ls_len] at h4
      refine ⟨_, rfl, by omega, fun x hx => BIF_ne (fun h5 => ?_) (fun h5 => ?_)⟩
      · rw [Int.toNat_natCast] at hx
        have hf : (addrK (midP n k) 20).find? (fun q => q.f != n) = some x := by
          rw [List.find?_eq_some_iff_getElem]
          obtain ⟨hlt, hxe⟩ := List.getElem?_eq_some_iff.1 hx
          refine ⟨by simpa using h5, i, hlt, hxe, fun j hj => ?_⟩
          have := hno j _ hj (List.getElem?_eq_getElem (by omega))
          simp [this]
        rw [hf] at h
        exact h
      · have := addrK_len (midP n k) 20
        refine ⟨by omega, i + 1, ⟨⟨by omega, fun j q hj hq => ?_⟩, by show (addrK (midP n k) 20).length - (i + 1) < (addrK (midP n k) 20).length - i; omega⟩, by simp, trivial⟩
        by_cases hji : j = i
        · subst hji
          rw [Int.toNat_natCast] at hx
          rw [hx] at hq
          obtain rfl := Option.some.inj hq
          exact h5
        · exact hno j q (by omega) hq
    · rw [View.ls_len] at h4
      have hf : (addrK (midP n k) 20).find? (fun q => q.f != n) = none := by
        rw [List.find?_eq_none]
        intro q hq
        obtain ⟨j, hj, rfl⟩ := List.getElem_of_mem hq
        have := hno j _ (by omega) (List.getElem?_eq_getElem hj)
        simp [this]
      rw [hf] at h
      exact h
theorem Digits_ok : SpecOk Tryd.prog E 35 DigitsPT := spec .nil (by kernel_rfl) fun args bo Q h => by
  obtain ⟨c, x, o, rfl, rfl, h1, h2, h⟩ := h
  have e1 := dg_tmod (x := x) (by omega)
  have e2 := dg_tmod (x := x / 10) (by omega)
  have e3 := dg_tmod (x := x / 10 / 10) (by omega)
  have d0 : dgI x 0 = 48 + x % 10 := by simp [dgI]
  have d1 : dgI x 1 = 48 + x / 10 % 10 := by simp [dgI]
  have d2 : dgI x 2 = 48 + x / 10 / 10 % 10 := by simp [dgI]; omega
  match o with
  | 0 =>
    simp only [digA]
    rw [Digits_vc]
    simp only [e1.1, e1.2, e2.1, e2.2, ← d0, ← d1]
    have := d0; have := d1
    exact ⟨by decide, by omega, by omega, by decide, by omega, by decide, by omega, by omega, by decide, by omega, h⟩
  | 1 =>
    simp only [digA]
    rw [Digits_vc2]
    simp only [e1.1, e1.2, e2.1, e2.2, e3.1, e3.2, ← d0, ← d1, ← d2]
    have := d0; have := d1; have := d2
    exact ⟨by decide, by omega, by omega, by decide, by omega, by decide, by omega, by omega, by decide, by omega, by decide, by omega, by omega, by decide, by omega, h⟩
  | 2 =>
    simp only [digA]
    rw [Digits_vc3]
    simp only [e1.1, e1.2, e2.1, e2.2, e3.1, e3.2, ← d0, ← d1, ← d2]
    have := d0; have := d1; have := d2
    exact ⟨by decide, by omega, by omega, by decide, by omega, by decide, by omega, by omega, by decide, by omega, by decide, by omega, by omega, by decide, by omega, h⟩
theorem Format_ok : SpecOk Tryd.prog E 17 FormatPT := spec (.cons Valid_ok (.cons Digits_ok .nil)) (by kernel_rfl) fun args bo Q h => by
  obtain ⟨p, rfl, rfl, h⟩ := h
  rw [Format_vc]
  refine ⟨p, rfl, rfl, BIF_n (fun h1 => ?_) (fun h1 => ?_)⟩
  · simp only [fmtF, h1] at h; exact h
  · have hp := okP_iff.1 h1
    simp only [fmtF, h1, if_true] at h
    exact ⟨fun _ => 0, p.f, 0, rfl, rfl, by omega, by omega, _, p.a, 1, rfl, rfl, by omega, by omega, _, p.b, 2, rfl, rfl, by omega, by omega, h⟩
theorem Parse_ok : SpecOk Tryd.prog E 18 ParsePT := spec2 (.cons Valid_ok .nil) (by kernel_rfl) fun args bo Q h => by
  obtain ⟨s, rfl, rfl, h⟩ := h
  by_cases hs : s.size = 8
  · obtain ⟨a, b, c, d, e, f, g, i, rfl⟩ := prsF_eq hs
    refine ⟨_, _, _, (Parse_vc a b c d e f g i Q).mpr ?_⟩
    replace h : Q (.tup [(prs8 a b c d e f g i).1.v, .int .i64 (prs8 a b c d e f g i).2]) [] [] := h
    have no : ¬ dD a b c d e f g i → Q (.tup [.agg [.int .i64 0, .int .i64 0, .int .i64 0, .int .i64 0], .int .i64 3]) [] [] := by
      intro hn; rw [prs8_no hn] at h; exact h
    have yes : dD a b c d e f g i → Q (.tup [(if okP (prsP a b c d e f g i) then (prsP a b c d e f g i, (0 : Int)) else (⟨0, 0, 0, 0⟩, 3)).1.v, .int .i64 (if okP (prsP a b c d e f g i) then (prsP a b c d e f g i, (0 : Int)) else (⟨0, 0, 0, 0⟩, 3)).2]) [] [] := by
      intro hn; rw [prs8_yes hn] at h; exact h
    unfold dD at no yes
    repeat' first
      | (refine BIF_d (fun hh => no (by omega)) (fun hh => ?_))
      | (refine And.intro (by omega) ?_)
    have yes := yes (by omega)
    refine ⟨prsP a b c d e f g i, ?_, rfl, ?_⟩
    · simp only [prsP, Pl.v, num2, num3, dgV, Int.zero_add]
    · refine BIF_n (fun h9 => ?_) (fun h9 => ?_)
      · rw [h9] at yes; exact yes
      · rw [h9] at yes
        simp only [if_true] at yes
        simp only [prsP, Pl.v, num2, num3, dgV] at yes
        simp only [Int.zero_add]
        exact yes
  · refine ⟨_, _, _, (Parse_vc2 s Q).mpr ?_⟩
    rw [prsF_ne hs] at h
    exact BIF_ne (fun _ => h) (fun e => absurd (by omega) hs)
theorem RValid_ok : SpecOk Tryd.prog E 28 RValidPT := spec .nil (by kernel_rfl) fun args bo Q h => by
  obtain ⟨p, rfl, rfl, h⟩ := h
  rw [RValid_vc]
  have no : ¬ (okP p = true) → Q (.bool false) [] [] := fun hn => Qc (b1 (by simpa using hn)) h
  rw [okP_iff] at no
  repeat' first
    | (refine BIF_d (fun hh => ?_) (fun hh => no (by omega)))
    | (refine And.intro (by omega) ?_)
  exact Qc (b1 (by rw [okP_iff]; simp only [beq_iff_eq]; omega)) h
theorem RCorners_ok : SpecOk Tryd.prog E 30 RCornersPT := spec .nil (by kernel_rfl) fun args bo Q h => by
  obtain ⟨n, rfl, rfl, h⟩ := h
  rw [RCorners_vc]
  refine BIF_d (fun h1 => ?_) (fun h1 => BIF_d (fun h2 => ?_) (fun h2 => ?_))
  · rw [show cornF n = (⟨0, 0, 0⟩, 1) by simp [cornF, okF]; omega] at h; exact h
  · rw [show cornF n = (⟨0, 0, 0⟩, 1) by simp [cornF, okF]; omega] at h; exact h
  · have hn : n = 0 ∨ n = 1 ∨ n = 2 ∨ n = 3 ∨ n = 4 ∨ n = 5 ∨ n = 6 ∨ n = 7 ∨ n = 8 ∨ n = 9 ∨ n = 10 ∨ n = 11 ∨ n = 12 ∨ n = 13 ∨ n = 14 ∨ n = 15 ∨ n = 16 ∨ n = 17 ∨ n = 18 ∨ n = 19 := by omega
    clear h1 h2
    rcases hn with rfl | rfl | rfl | rfl | rfl | rfl | rfl | rfl | rfl | rfl | rfl | rfl | rfl | rfl | rfl | rfl | rfl | rfl | rfl | rfl <;>
      (refine ⟨by decide, ?_⟩
       first
       | exact ⟨by decide, by decide, h⟩
       | exact ⟨by decide, by decide, by decide, h⟩)
theorem RWeights_ok : SpecOk Tryd.prog E 38 RWeightsPT := spec (.cons RCorners_ok .nil) (by kernel_rfl) fun args bo Q h => by
  obtain ⟨p, rfl, rfl, hp, h⟩ := h
  rw [RWeights_vc]
  have hp := okP_iff.1 hp
  have hc : cornF p.f = (corI p.f, 0) := by simp [cornF, okF_iff.2 ⟨hp.1, hp.2.1⟩]
  obtain ⟨h1, h2, h3⟩ := corI_in p.f
  refine ⟨p.f, rfl, rfl, ?_⟩
  rw [hc]
  dsimp only
  refine ⟨h1, by omega, h2, by omega, h3, by omega, ?_⟩
  simp only [Nat.zero_add, Nat.mul_one]
  exact h
theorem ROn_ok : SpecOk Tryd.prog E 39 ROnPT := spec (.cons RCorners_ok .nil) (by kernel_rfl) fun args bo Q h => by
  obtain ⟨n, g, rfl, rfl, hn, hg, h⟩ := h
  rw [ROn_vc]
  have hc : cornF n = (corI n, 0) := by simp [cornF, hn]
  obtain ⟨h1, h2, h3⟩ := corI_in n
  refine ⟨n, rfl, rfl, ?_⟩
  rw [hc]
  dsimp only
  refine ⟨h1, wl g, (corI n).x.toNat, rfl, by omega, by simp [wl]; omega, fun x1 hx1 => ⟨h2, wl g, (corI n).y.toNat, rfl, by omega, by simp [wl]; omega, fun x2 hx2 => ⟨h3, wl g, (corI n).z.toNat, rfl, by omega, by simp [wl]; omega, fun x3 hx3 => ?_⟩⟩⟩
  rw [wl_get g (by omega)] at hx1 hx2 hx3
  obtain rfl := Option.some.inj hx1
  obtain rfl := Option.some.inj hx2
  obtain rfl := Option.some.inj hx3
  have := hg (corI n).x.toNat
  have := hg (corI n).y.toNat
  have := hg (corI n).z.toNat
  exact ⟨by omega, by omega, h⟩
theorem RAddresses_ok : SpecOk Tryd.prog E 24 RAddressesPT := spec (.cons RValid_ok (.cons RWeights_ok (.cons ROn_ok .nil))) (by kernel_rfl) fun args bo Q h => by
  obtain ⟨p, rfl, rfl, h⟩ := h
  rw [RAddresses_vc]
  refine ⟨p, rfl, rfl, BIF_n (fun h1 => ?_) (fun h1 => ?_)⟩
  · simp only [addrF, h1] at h
    exact h
  · simp only [addrF, h1, if_true] at h
    refine ⟨p, rfl, rfl, h1, fun i x => x.1 ≤ 20 ∧ addrK p x.1 = x.2 ∧ (i = 0 → x.2 = []), fun _ x => 20 - x.1, ⟨(0, []), ⟨by omega, rfl, fun _ => rfl⟩, rfl, trivial⟩, ?_, ?_⟩
    · rintro ⟨k, l⟩ ⟨hk, he, hl⟩
      dsimp only at hk he hl ⊢
      obtain rfl := hl rfl
      refine BIF_d (fun h2 => ?_) (fun h2 => ?_)
      · have hs := addrK_succ p k
        rw [he, List.nil_append] at hs
        have hkf : okF k = true := okF_iff.2 (by omega)
        refine ⟨k, wt p, rfl, rfl, hkf, fun j => wt_in h1 j, ?_⟩
        rw [← onP_sum h1 hkf]
        refine BIF_in (fun h3 => ?_) (fun h3 => ?_)
        · rw [if_pos h3] at hs
          exact ⟨onP k (wt p), rfl, by omega, by omega, (k + 1, [onP k (wt p)]), ⟨⟨by show k + 1 ≤ 20; omega, hs, fun h => by cases h⟩, by show 20 - (k + 1) < 20 - k; omega⟩, rfl, rfl, vwPl_nvs _, trivial⟩
        · rw [if_neg (by simp [h3])] at hs
          exact ⟨by omega, (k + 1, []), ⟨⟨by show k + 1 ≤ 20; omega, hs, fun _ => rfl⟩, by show 20 - (k + 1) < 20 - k; omega⟩, rfl, trivial⟩
      · have : k = 20 := by omega
        subst this
        rw [he] at h
        exact h
    · rintro ⟨k, l⟩ ⟨hk, he, hl⟩
      dsimp only at hk he hl ⊢
      have hlen : l.length ≤ k := by rw [← he]; exact addrK_len p k
      refine BIF_d (fun h2 => ?_) (fun h2 => ?_)
      · have hs := addrK_succ p k
        rw [he] at hs
        have hkf : okF k = true := okF_iff.2 (by omega)
        refine ⟨k, wt p, rfl, rfl, hkf, fun j => wt_in h1 j, ?_⟩
        rw [← onP_sum h1 hkf]
        refine BIF_in (fun h3 => ?_) (fun h3 => ?_)
        · rw [if_pos h3] at hs
          exact ⟨onP k (wt p), rfl, l, rfl, rfl, by show (l.length + 1) * 32 ≤ _; omega, by omega, (k + 1, l ++ [onP k (wt p)]), ⟨⟨by show k + 1 ≤ 20; omega, hs, fun h => by cases h⟩, by show 20 - (k + 1) < 20 - k; omega⟩, rfl, rfl, vwPl_nvs _, trivial⟩
        · rw [if_neg (by simp [h3]), List.append_nil] at hs
          exact ⟨by omega, (k + 1, l), ⟨⟨by show k + 1 ≤ 20; omega, hs, fun h => by cases h⟩, by show 20 - (k + 1) < 20 - k; omega⟩, rfl, rfl, vwPl_nvs _, trivial⟩
      · have : k = 20 := by omega
        subst this
        rw [he] at h
        exact ⟨l, rfl, rfl, h⟩
theorem RNormal_ok : SpecOk Tryd.prog E 23 RNormalPT := spec (.cons RAddresses_ok .nil) (by kernel_rfl) fun args bo Q h => by
  obtain ⟨p, rfl, rfl, h⟩ := h
  rw [RNormal_vc]
  refine ⟨p, rfl, rfl, ?_⟩
  cases h1 : okP p with
  | false =>
    simp only [nrmF, h1] at h
    simp only [addrF, h1]
    exact h
  | true =>
    obtain ⟨q, l, hq⟩ := addrK_pos h1
    simp only [nrmF, h1, if_true, hq, List.head?_cons, Option.getD_some] at h
    simp only [addrF, h1, if_true, hq]
    exact ⟨q :: l, rfl, by simp, fun x hx => by
      simp only [List.getElem?_cons_zero, Option.some.injEq] at hx
      subst hx; exact h⟩
theorem RSame_ok : SpecOk Tryd.prog E 29 RSamePT := spec (.cons RValid_ok (.cons RWeights_ok .nil)) (by kernel_rfl) fun args bo Q h => by
  obtain ⟨p, q, rfl, rfl, h⟩ := h
  rw [RSame_vc]
  refine ⟨p, rfl, rfl, BIF_in (fun h1 => ⟨q, rfl, rfl, BIF_in (fun h2 => ⟨p, rfl, rfl, h1, q, rfl, rfl, h2, ?_⟩) (fun h2 => ?_)⟩) (fun h1 => ?_)⟩
  · simp only [sameF, h1, h2, Bool.true_and] at h
    exact Qc (b1 (by simp only [wtEq, wl, Bool.and_eq_true, beq_iff_eq, List.cons.injEq, and_true])) h
  · simp only [sameF, h1, h2, Bool.true_and, Bool.false_and] at h; exact h
  · simp only [sameF, h1, Bool.false_and] at h; exact h
theorem RDigits_ok : SpecOk Tryd.prog E 40 RDigitsPT := spec .nil (by kernel_rfl) fun args bo Q h => by
  obtain ⟨x, rfl, h1, h2, h⟩ := h
  have e1 := dg_tmod (x := x) (by omega)
  have e2 := dg_tmod (x := x / 10) (by omega)
  have e3 := dg_tmod (x := x / 10 / 10) (by omega)
  have d0 : dgI x 0 = 48 + x % 10 := by simp [dgI]
  have d1 : dgI x 1 = 48 + x / 10 % 10 := by simp [dgI]
  have d2 : dgI x 2 = 48 + x / 10 / 10 % 10 := by simp [dgI]; omega
  rcases h with ⟨rfl, h⟩ | ⟨rfl, h⟩
  · rw [RDigits_vc]
    simp only [e1.1, e1.2, e2.1, e2.2, ← d0, ← d1]
    have := d0; have := d1
    exact ⟨by decide, by omega, by omega, by decide, by omega, by decide, by omega, by omega, by decide, by omega, h⟩
  · rw [RDigits_vc2]
    simp only [e1.1, e1.2, e2.1, e2.2, e3.1, e3.2, ← d0, ← d1, ← d2]
    have := d0; have := d1; have := d2
    exact ⟨by decide, by omega, by omega, by decide, by omega, by decide, by omega, by omega, by decide, by omega, by decide, by omega, by omega, by decide, by omega, h⟩
theorem RFormat_ok : SpecOk Tryd.prog E 25 RFormatPT := spec (.cons RValid_ok (.cons RDigits_ok .nil)) (by kernel_rfl) fun args bo Q h => by
  obtain ⟨p, rfl, rfl, h⟩ := h
  rw [RFormat_vc]
  refine ⟨p, rfl, rfl, BIF_n (fun h1 => ?_) (fun h1 => ?_)⟩
  · simp only [fmtF, h1] at h; exact h
  · have hp := okP_iff.1 h1
    simp only [fmtF, h1, if_true] at h
    exact ⟨p.f, rfl, by omega, by omega, .inl ⟨rfl, p.a, rfl, by omega, by omega, .inr ⟨rfl, p.b, rfl, by omega, by omega, .inr ⟨rfl, h⟩⟩⟩⟩
theorem RNumber_ok : SpecOk Tryd.prog E 36 RNumberPT := spec .nil (by kernel_rfl) fun args bo Q h => by
  obtain ⟨rfl, h⟩ := h
  rcases h with ⟨a, b, ha, hb, rfl, h⟩ | ⟨a, b, c, ha, hb, hc, rfl, h⟩
  · rw [RNumber_vc]
    simp only [isDg, decide_eq_true_eq] at ha hb
    simp only [num2, dgV] at h
    repeat' (refine And.intro (by omega) ?_)
    exact Qc (i1 (by omega)) h
  · rw [RNumber_vc2]
    simp only [isDg, decide_eq_true_eq] at ha hb hc
    simp only [num3, dgV] at h
    repeat' (refine And.intro (by omega) ?_)
    exact Qc (i1 (by omega)) h
theorem RParse_ok : SpecOk Tryd.prog E 19 RParsePT := spec2 (.cons RNumber_ok (.cons RValid_ok .nil)) (by kernel_rfl) fun args bo Q h => by
  obtain ⟨s, rfl, rfl, h⟩ := h
  by_cases hs : s.size = 8
  · obtain ⟨a, b, c, d, e, f, g, i, rfl⟩ := prsF_eq hs
    refine ⟨_, _, _, (RParse_vc a b c d e f g i Q).mpr ?_⟩
    replace h : Q (.tup [(prs8 a b c d e f g i).1.v, .int .i64 (prs8 a b c d e f g i).2]) [] [] := h
    have no : ¬ dD a b c d e f g i → Q (.tup [.agg [.int .i64 0, .int .i64 0, .int .i64 0, .int .i64 0], .int .i64 3]) [] [] := by
      intro hn; rw [prs8_no hn] at h; exact h
    have yes : dD a b c d e f g i → Q (.tup [(if okP (prsP a b c d e f g i) then (prsP a b c d e f g i, (0 : Int)) else (⟨0, 0, 0, 0⟩, 3)).1.v, .int .i64 (if okP (prsP a b c d e f g i) then (prsP a b c d e f g i, (0 : Int)) else (⟨0, 0, 0, 0⟩, 3)).2]) [] [] := by
      intro hn; rw [prs8_yes hn] at h; exact h
    unfold dD at no yes
    repeat' (refine BIF_d (fun hh => no (by omega)) (fun hh => ?_))
    have yes := yes (by omega)
    have dg : ∀ x : UInt8, 48 ≤ x.toNat → x.toNat ≤ 57 → isDg x = true := fun x h1 h2 => by simp only [isDg, decide_eq_true_eq]; exact ⟨h1, h2⟩
    have da := dg a (by omega) (by omega)
    have db := dg b (by omega) (by omega)
    have dc := dg c (by omega) (by omega)
    have ddd := dg d (by omega) (by omega)
    have de := dg e (by omega) (by omega)
    have df := dg f (by omega) (by omega)
    have dg' := dg g (by omega) (by omega)
    have di := dg i (by omega) (by omega)
    refine ⟨rfl, .inl ⟨a, b, da, db, rfl, rfl, .inr ⟨c, d, e, dc, ddd, de, rfl, rfl, .inr ⟨f, g, i, df, dg', di, rfl, ?_⟩⟩⟩⟩
    have w1 : IntKind.i64.wrap (840 - num3 c d e) = 840 - num3 c d e := by
      apply wrap64 <;> (simp only [num3, dgV]; omega)
    have w2 : IntKind.i64.wrap (840 - num3 c d e - num3 f g i) = 840 - num3 c d e - num3 f g i := by
      apply wrap64 <;> (simp only [num3, dgV]; omega)
    rw [w1, w2]
    refine ⟨prsP a b c d e f g i, rfl, rfl, BIF_n (fun h9 => ?_) (fun h9 => ?_)⟩
    · rw [h9] at yes; exact yes
    · rw [h9] at yes; exact yes
  · refine ⟨_, _, _, (RParse_vc2 s Q).mpr ?_⟩
    rw [prsF_ne hs] at h
    exact BIF_ne (fun _ => h) (fun e => absurd (by omega) hs)
theorem RAcross_ok : SpecOk Tryd.prog E 31 RAcrossPT := spec (.cons RCorners_ok .nil) (by kernel_rfl) fun args bo Q h => by
  obtain ⟨n, k, rfl, rfl, h⟩ := h
  rw [RAcross_vc]
  have no : ¬ (okF n = true ∧ 0 ≤ k ∧ k ≤ 2) → Q (.tup [.int .i64 0, .int .i64 1]) [] [] := by
    intro hn
    unfold acrF at h
    rw [if_neg (by simpa only [Bool.and_eq_true, decide_eq_true_eq] using hn)] at h
    exact h
  refine ⟨n, rfl, rfl, ?_⟩
  cases hn : okF n with
  | false => exact BIF_t (by simp [cornF, hn]) (no (by simp [hn]))
  | true =>
  have hC : cornF n = (corI n, 0) := by simp [cornF, hn]
  rw [hC]
  refine BIF_f rfl (BIF_d (fun h2 => no (by omega)) (fun h2 => BIF_d (fun h3 => no (by omega)) (fun h3 => ?_)))
  obtain ⟨f, hf20, hfA, hfB, hfe⟩ := acr_out (k := k) hn ⟨by omega, by omega⟩
  rw [hfe] at h
  have t1 : (k + 1).tmod 3 = (k + 1) % 3 := Int.tmod_eq_emod_of_nonneg (by omega)
  have t2 : (k + 2).tmod 3 = (k + 2) % 3 := Int.tmod_eq_emod_of_nonneg (by omega)
  rw [t1, t2]
  refine ⟨by omega, by omega, c3 (corI n), ((k + 1) % 3).toNat, rfl, by omega, by show _ < 3; omega, fun va hva => ⟨by omega, by omega, c3 (corI n), ((k + 2) % 3).toNat, rfl, by omega, by show _ < 3; omega, fun vb hvb => ?_⟩⟩
  have hA : (c3 (corI n)).getD ((k + 1) % 3).toNat 0 = va := by rw [List.getD_eq_getElem?_getD, hva]; rfl
  have hB : (c3 (corI n)).getD ((k + 2) % 3).toNat 0 = vb := by rw [List.getD_eq_getElem?_getD, hvb]; rfl
  refine ⟨fun _ g => g ≤ f, fun _ g => 20 - g, ⟨0, Nat.zero_le _, rfl, trivial⟩, fun g hg => BIF_d (fun h4 => ⟨g, rfl, rfl, ?_⟩) (fun h4 => by omega)⟩
  have hg2 : okF (g : Int) = true := okF_iff.2 (by omega)
  rw [show cornF (g : Int) = (corI g, 0) by simp [cornF, hg2]]
  refine ⟨fun _ x => x.1 ≤ 3 ∧ x.2.1 = ((c3 (corI g)).take x.1).any (fun v => v == va) ∧ x.2.2 = ((c3 (corI g)).take x.1).any (fun v => v == vb), fun _ x => 3 - x.1, ⟨(0, false, false), ⟨by dsimp only; omega, rfl, rfl⟩, rfl, trivial⟩, ?_⟩
  rintro ⟨j, x, y⟩ ⟨hj, hx, hy⟩
  dsimp only at hj hx hy ⊢
  refine BIF_d (fun h5 => ?_) (fun h5 => ?_)
  · obtain ⟨v0, hv0⟩ : ∃ v, (c3 (corI g))[j]? = some v := ⟨_, List.getElem?_eq_getElem (show j < 3 by omega)⟩
    have stp : ∀ w : Int, ((c3 (corI g)).take (j + 1)).any (fun v => v == w) = (((c3 (corI g)).take j).any (fun v => v == w) || (v0 == w)) := by
      intro w; rw [List.take_add_one, hv0]; simp
    have nxt : ∀ x' y' : Bool, x' = (x || v0 == va) → y' = (y || v0 == vb) → (-9223372036854775808 ≤ (j : Int) + 1 ∧ (j : Int) + 1 ≤ 9223372036854775807) ∧ ∃ z : Nat × Bool × Bool, ((z.1 ≤ 3 ∧ z.2.1 = ((c3 (corI g)).take z.1).any (fun v => v == va) ∧ z.2.2 = ((c3 (corI g)).take z.1).any (fun v => v == vb)) ∧ 3 - z.1 < 3 - j) ∧ [V.int IntKind.i64 ((j : Int) + 1), V.bool x', V.bool y'] = [V.int IntKind.i64 (z.1 : Int), V.bool z.2.1, V.bool z.2.2] ∧ True := by
      intro x' y' e1 e2
      exact ⟨by omega, (j + 1, x', y'), ⟨⟨by dsimp only; omega, by dsimp only; rw [stp, ← hx, e1], by dsimp only; rw [stp, ← hy, e2]⟩, by dsimp only; omega⟩, by simp, trivial⟩
    refine BIF_in (fun e1 => BIF_in (fun e2 => nxt _ _ (by simp [e1]) (by simp [e2])) (fun e2 => ⟨by omega, c3 (corI g), j, rfl, by omega, by show j < 3; omega, fun v hv => ?_⟩))
      (fun e1 => ⟨by omega, c3 (corI g), j, rfl, by omega, by show j < 3; omega, fun v hv => BIF_in (fun e2 => ?_) (fun e2 => ⟨by omega, c3 (corI g), j, rfl, by omega, by show j < 3; omega, fun v2 hv2 => ?_⟩)⟩)
    · rw [hv0] at hv; obtain rfl := Option.some.inj hv; exact nxt _ _ (by simp [e1]) (by simp [e2])
    · rw [hv0] at hv; obtain rfl := Option.some.inj hv; exact nxt _ _ (by simp [e1]) (by simp [e2])
    · rw [hv0] at hv hv2; obtain rfl := Option.some.inj hv; obtain rfl := Option.some.inj hv2; exact nxt _ _ (by simp [e1]) (by simp [e2])
  · obtain rfl : j = 3 := by omega
    have tk : (c3 (corI g)).take 3 = c3 (corI g) := rfl
    rw [tk] at hx hy
    have hh : hasAB n k g = (x && (y && (g : Int) != n)) := by unfold hasAB; rw [hA, hB, hx, hy]
    have more : hasAB n k g = false → (-9223372036854775808 ≤ (g : Int) + 1 ∧ (g : Int) + 1 ≤ 9223372036854775807) ∧ ∃ z : Nat, (z ≤ f ∧ 20 - z < 20 - g) ∧ [V.int IntKind.i64 ((g : Int) + 1)] = [V.int IntKind.i64 (z : Int)] ∧ True := by
      intro e
      have : g ≠ f := by intro e2; subst e2; rw [hfA] at e; cases e
      exact ⟨by omega, g + 1, ⟨by omega, by omega⟩, by simp, trivial⟩
    refine BIF_in (fun e1 => BIF_in (fun e2 => BIF_in (fun e3 => ?_) (fun e3 => more (by rw [hh, e3]; simp))) (fun e2 => more (by rw [hh, e2]; simp))) (fun e1 => more (by rw [hh, e1]; simp))
    rw [e1, e2, e3] at hh
    have : g = f := by
      by_cases e : g < f
      · rw [hfB g e] at hh; cases hh
      · omega
    subst this
    exact h
end Go.Proofs.YtbiifkfehfapkaaDoor
