/- The functions of the part 'Law17' do what they are said to do. -/
import Derived.Test.YtbejkehbfdcaaaaDoorZLaw17V
import Derived.Test.YtbejkehbfdcaaaaDoorZKeepP
import Derived.Test.YtbejkehbfdcaaaaDoorZElemP
import Derived.Test.YtbejkehbfdcaaaaDoorZHydroP
set_option linter.unusedVariables false
namespace Go.Proofs.YtbejkehbfdcaaaaDoor
open Go Go.Vi
set_option maxRecDepth 100000
set_option maxHeartbeats 1000000
theorem Six_ok : SpecOk Tryd.prog E 17 SixPT := spec .nil (by kernel_rfl) fun args bo Q h => by
  obtain ⟨a, b, c, d, e, f, rfl, rfl, h⟩ := h
  rw [Six_vc]
  exact h
theorem Fitting_ok : SpecOk Tryd.prog E 8 FittingPT := spec (.cons Range_ok (.cons Six_ok .nil)) (by kernel_rfl) fun args bo Q h => by
  obtain ⟨r, rfl, rfl, hr, h⟩ := h
  rw [Fitting_vc]
  refine ⟨r, 2500, 3000, rfl, rfl, hr, by omega, by omega, by omega, fun t8 r1 hr1 a1 a2 => ⟨r1, 2450, 2850, rfl, rfl, hr1, by omega, by omega, by omega, fun t7 r2 hr2 b1 b2 => ⟨r2, 2200, 2600, rfl, rfl, hr2, by omega, by omega, by omega, fun t5 r3 hr3 c1 c2 => ⟨r3, 1200, 1500, rfl, rfl, hr3, by omega, by omega, by omega, fun h8 r4 hr4 d1 d2 => ?_⟩⟩⟩⟩
  have h := h t8 t7 t5 h8 r4 hr4 a1 a2 b1 b2 c1 c2 d1 d2
  rw [fdiv2 (by omega) (by omega), fdiv2 (by omega) (by omega)]
  exact ⟨by omega, by omega, by omega, by omega, by omega, by omega, by omega, by omega, _, _, _, _, _, _, rfl, rfl, h⟩
theorem Awake_ok : SpecOk Tryd.prog E 12 AwakePT := closed (n := 60) (by kernel_rfl)
theorem Finds_ok : SpecOk Tryd.prog E 3 FindsPT := spec (.cons New_ok (.cons Fitting_ok (.cons CheckH_ok (.cons Mod_ok (.cons RValidate_ok (.cons Ints_ok (.cons Awake_ok .nil))))))) (by kernel_rfl) fun args bo Q h => by
  obtain ⟨l, y, w, rfl, rfl, hl, hy, h⟩ := h
  rw [Finds_vc]
  refine ⟨l, rfl, rfl, hl, fun r hr => ⟨r, rfl, rfl, hr, fun t8 t7 t5 h8 r1 hr1 a1 a2 b1 b2 c1 c2 d1 d2 => ?_⟩⟩
  obtain ⟨hi, hu, hv⟩ := fit6 a1 a2 b1 b2 c1 c2 d1 d2
  have hE : chE (six6 h8 t8 (h7F h8 t8 t7) t7 (h5F (h7F h8 t8 t7) t7 t5) t5) 10 = 0 := by rw [che6 hi, if_neg (by omega)]
  have hL : chL (six6 h8 t8 (h7F h8 t8 t7) t7 (h5F (h7F h8 t8 t7) t7 t5) t5) 10 = [] := by rw [chl6 hi (by omega) (by omega), fit6_ch hu hv]
  refine ⟨six6 h8 t8 (h7F h8 t8 t7) t7 (h5F (h7F h8 t8 t7) t7 t5) t5, 0, rfl, rfl, Nat.le_refl 6, six6 h8 t8 (h7F h8 t8 t7) t7 (h5F (h7F h8 t8 t7) t7 t5) t5, 10, rfl, rfl, by show (6 : Nat) ≤ _; omega, BIF_ne (fun e => absurd hE e) (fun _ => ?_)⟩
  rw [hL]
  refine BIF_d (fun e => absurd e (by decide)) (fun _ => ⟨y, 150, rfl, rfl, hy, by unfold inR; omega, ?_⟩)
  rw [if_neg (by omega)]
  have m1 := Int.emod_nonneg y (show (150 : Int) ≠ 0 by omega)
  have m2 := Int.emod_lt_of_pos y (show (0 : Int) < 150 by omega)
  refine ⟨by omega, BIF_in (fun _ => ⟨y, 100, rfl, rfl, hy, by unfold inR; omega, ?_⟩) (fun _ => ?_)⟩
  · rw [if_neg (by omega)]
    have m3 := Int.emod_nonneg y (show (100 : Int) ≠ 0 by omega)
    have m4 := Int.emod_lt_of_pos y (show (0 : Int) < 100 by omega)
    refine ⟨by omega, BIF_in (fun _ => ⟨by omega, by omega, six6 h8 t8 (h7F h8 t8 t7) (t7 + (0 - (100 + y % 100))) (h5F (h7F h8 t8 t7) t7 t5) t5, 0, rfl, rfl, Nat.le_refl 6, six6 h8 t8 (h7F h8 t8 t7) (t7 + (0 - (100 + y % 100))) (h5F (h7F h8 t8 t7) t7 t5) t5, rfl, rfl, by show (6 : Nat) ≤ _; omega, BIF_ne (fun _ => ⟨rfl, rfl, h⟩) (fun e => ?_)⟩) (fun _ => ⟨by omega, six6 h8 t8 (h7F h8 t8 t7) (t7 + (100 + y % 100)) (h5F (h7F h8 t8 t7) t7 t5) t5, 0, rfl, rfl, Nat.le_refl 6, six6 h8 t8 (h7F h8 t8 t7) (t7 + (100 + y % 100)) (h5F (h7F h8 t8 t7) t7 t5) t5, rfl, rfl, by show (6 : Nat) ≤ _; omega, BIF_ne (fun _ => ⟨rfl, rfl, h⟩) (fun e => ?_)⟩)⟩
    · obtain ⟨e1, e2⟩ := finds9 a1 a2 b1 b2 c1 c2 d1 d2 (by omega) e
      refine ⟨six6 h8 t8 (h7F h8 t8 t7) (t7 + (0 - (100 + y % 100))) (h5F (h7F h8 t8 t7) t7 t5) t5, 0, rfl, rfl, Nat.le_refl 6, six6 h8 t8 (h7F h8 t8 t7) (t7 + (0 - (100 + y % 100))) (h5F (h7F h8 t8 t7) t7 t5) t5, 10, rfl, rfl, by show (6 : Nat) ≤ _; omega, BIF_e (fun _ => ⟨[9], 0, rfl, rfl, by decide, _, [9], rfl, rfl, by rw [e2]; decide, ?_⟩) (fun e => absurd e1 e)⟩
      rw [e2]
      exact ⟨rfl, rfl, h⟩
    · obtain ⟨e1, e2⟩ := finds9 a1 a2 b1 b2 c1 c2 d1 d2 (by omega) e
      refine ⟨six6 h8 t8 (h7F h8 t8 t7) (t7 + (100 + y % 100)) (h5F (h7F h8 t8 t7) t7 t5) t5, 0, rfl, rfl, Nat.le_refl 6, six6 h8 t8 (h7F h8 t8 t7) (t7 + (100 + y % 100)) (h5F (h7F h8 t8 t7) t7 t5) t5, 10, rfl, rfl, by show (6 : Nat) ≤ _; omega, BIF_e (fun _ => ⟨[9], 0, rfl, rfl, by decide, _, [9], rfl, rfl, by rw [e2]; decide, ?_⟩) (fun e => absurd e1 e)⟩
      rw [e2]
      exact ⟨rfl, rfl, h⟩
  · have k := hi.c1
    have k2 := hi.c2
    refine BIF_in (fun _ => ⟨by omega, by omega, six6 h8 t8 (h7F h8 t8 t7 + (0 - (40 + y % 150))) t7 (h5F (h7F h8 t8 t7) t7 t5) t5, 0, rfl, rfl, Nat.le_refl 6, six6 h8 t8 (h7F h8 t8 t7 + (0 - (40 + y % 150))) t7 (h5F (h7F h8 t8 t7) t7 t5) t5, rfl, rfl, by show (6 : Nat) ≤ _; omega, BIF_ne (fun _ => ⟨rfl, rfl, h⟩) (fun e => ?_)⟩) (fun _ => ⟨by omega, six6 h8 t8 (h7F h8 t8 t7 + (40 + y % 150)) t7 (h5F (h7F h8 t8 t7) t7 t5) t5, 0, rfl, rfl, Nat.le_refl 6, six6 h8 t8 (h7F h8 t8 t7 + (40 + y % 150)) t7 (h5F (h7F h8 t8 t7) t7 t5) t5, rfl, rfl, by show (6 : Nat) ≤ _; omega, BIF_ne (fun _ => ⟨rfl, rfl, h⟩) (fun e => ?_)⟩)
    · obtain ⟨e1, e2⟩ := finds8 a1 a2 b1 b2 c1 c2 d1 d2 (by omega) e
      refine ⟨six6 h8 t8 (h7F h8 t8 t7 + (0 - (40 + y % 150))) t7 (h5F (h7F h8 t8 t7) t7 t5) t5, 0, rfl, rfl, Nat.le_refl 6, six6 h8 t8 (h7F h8 t8 t7 + (0 - (40 + y % 150))) t7 (h5F (h7F h8 t8 t7) t7 t5) t5, 10, rfl, rfl, by show (6 : Nat) ≤ _; omega, BIF_e (fun _ => ⟨[8], 0, rfl, rfl, by decide, _, [8], rfl, rfl, by rw [e2]; decide, ?_⟩) (fun e => absurd e1 e)⟩
      rw [e2]
      exact ⟨rfl, rfl, h⟩
    · obtain ⟨e1, e2⟩ := finds8 a1 a2 b1 b2 c1 c2 d1 d2 (by omega) e
      refine ⟨six6 h8 t8 (h7F h8 t8 t7 + (40 + y % 150)) t7 (h5F (h7F h8 t8 t7) t7 t5) t5, 0, rfl, rfl, Nat.le_refl 6, six6 h8 t8 (h7F h8 t8 t7 + (40 + y % 150)) t7 (h5F (h7F h8 t8 t7) t7 t5) t5, 10, rfl, rfl, by show (6 : Nat) ≤ _; omega, BIF_e (fun _ => ⟨[8], 0, rfl, rfl, by decide, _, [8], rfl, rfl, by rw [e2]; decide, ?_⟩) (fun e => absurd e1 e)⟩
      rw [e2]
      exact ⟨rfl, rfl, h⟩
theorem Ends_ok : SpecOk Tryd.prog E 4 EndsPT := spec (.cons New_ok (.cons Fitting_ok (.cons N_ok (.cons CheckH_ok (.cons Residuals_ok (.cons Mod_ok (.cons RValidate_ok (.cons Ints_ok (.cons Awake_ok .nil))))))))) (by kernel_rfl) fun args bo Q h => by
  obtain ⟨l, y, w, rfl, rfl, hl, hy, h⟩ := h
  have m3 := Int.emod_nonneg y (show (80 : Int) ≠ 0 by omega)
  have m4 := Int.emod_lt_of_pos y (show (0 : Int) < 80 by omega)
  cases w with
  | false =>
    rw [Ends_vc]
    refine ⟨l, rfl, rfl, hl, fun r hr => ⟨r, rfl, rfl, hr, fun t8 t7 t5 h8 r1 hr1 a1 a2 b1 b2 c1 c2 d1 d2 => ?_⟩⟩
    obtain ⟨hi, hu, hv⟩ := fit6 a1 a2 b1 b2 c1 c2 d1 d2
    refine ⟨r1, 2, rfl, rfl, hr1, by omega, by unfold inR; omega, fun v r2 hr2 v1 v2 => ⟨by omega, six6 h8 t8 (h7F h8 t8 t7) t7 (h5F (h7F h8 t8 t7) t7 t5) t5, v.toNat, rfl, by omega, by show v.toNat < 6; omega, fun x hx => ⟨y, 80, rfl, rfl, hy, by unfold inR; omega, ?_⟩⟩⟩
    rw [if_neg (by omega)]
    have hb : -10000 ≤ x.y ∧ x.y ≤ 10000 := near_get (s := ⟨h8, t8, h7F h8 t8 t7, t7, h5F (h7F h8 t8 t7) t7 t5, t5⟩) (k := 0) (by obtain ⟨_, _, _, _, _, _, _, _, _, _, _, _⟩ := hi; constructor <;> dsimp only <;> omega) (by omega) hx
    refine ⟨by omega, by omega, by omega, six6 h8 t8 (h7F h8 t8 t7) t7 (h5F (h7F h8 t8 t7) t7 t5) t5, v.toNat, rfl, by omega, by show v.toNat < 6; omega, fun x2 hx2 => ⟨⟨x2.x, x.y + (200 + y % 80)⟩, rfl, ?_⟩⟩
    obtain rfl := Option.some.inj (hx2.symm.trans hx)
    obtain ⟨e0, e1⟩ := ends_low a1 a2 b1 b2 c1 c2 d1 d2 (d := 200 + y % 80) (by omega) (by omega) (by omega) hx
    refine ⟨_, rfl, e0.symm, _, rfl, rfl, by rw [e0]; omega, BIF_ne (fun _ => ⟨rfl, rfl, h⟩) (fun e => ?_)⟩
    obtain ⟨f1, f2, f3⟩ := e1 e
    refine ⟨_, rfl, e0.symm, _, 20, rfl, rfl, by rw [e0]; omega, _, rfl, e0.symm, _, rfl, rfl, by rw [e0]; omega, six6 h8 t8 (h7F h8 t8 t7) t7 (h5F (h7F h8 t8 t7) t7 t5) t5, rfl, rfl, by show (6 : Nat) ≤ _; omega, BIF_ne (fun g => absurd f3 g) (fun _ => BIF_e (fun _ => ⟨_, [6, 7], rfl, rfl, by rw [f2]; decide, ?_⟩) (fun g => absurd f1 g))⟩
    rw [f2]
    exact ⟨rfl, rfl, h⟩
  | true =>
    rw [Ends_vc2]
    refine ⟨l, rfl, rfl, hl, fun r hr => ⟨r, rfl, rfl, hr, fun t8 t7 t5 h8 r1 hr1 a1 a2 b1 b2 c1 c2 d1 d2 => ?_⟩⟩
    obtain ⟨hi, hu, hv⟩ := fit6 a1 a2 b1 b2 c1 c2 d1 d2
    refine ⟨r1, 2, rfl, rfl, hr1, by omega, by unfold inR; omega, fun v0 r2 hr2 _ _ => ⟨r2, 2, rfl, rfl, hr2, by omega, by unfold inR; omega, fun v r3 hr3 v1 v2 => ⟨by omega, by omega, six6 h8 t8 (h7F h8 t8 t7) t7 (h5F (h7F h8 t8 t7) t7 t5) t5, (4 + v).toNat, rfl, by omega, by show (4 + v).toNat < 6; omega, fun x hx => ⟨y, 80, rfl, rfl, hy, by unfold inR; omega, ?_⟩⟩⟩⟩
    rw [if_neg (by omega)]
    have hb : -10000 ≤ x.y ∧ x.y ≤ 10000 := near_get (s := ⟨h8, t8, h7F h8 t8 t7, t7, h5F (h7F h8 t8 t7) t7 t5, t5⟩) (k := 0) (by obtain ⟨_, _, _, _, _, _, _, _, _, _, _, _⟩ := hi; constructor <;> dsimp only <;> omega) (by omega) hx
    refine ⟨by omega, by omega, by omega, six6 h8 t8 (h7F h8 t8 t7) t7 (h5F (h7F h8 t8 t7) t7 t5) t5, (4 + v).toNat, rfl, by omega, by show (4 + v).toNat < 6; omega, fun x2 hx2 => ⟨⟨x2.x, x.y + (200 + y % 80)⟩, rfl, ?_⟩⟩
    obtain rfl := Option.some.inj (hx2.symm.trans hx)
    obtain ⟨e0, e1⟩ := ends_top a1 a2 b1 b2 c1 c2 d1 d2 (d := 200 + y % 80) (by omega) (by omega) (by omega) (by omega) hx
    refine ⟨_, rfl, e0.symm, _, rfl, rfl, by rw [e0]; omega, BIF_ne (fun _ => ⟨rfl, rfl, h⟩) (fun e => ?_)⟩
    obtain ⟨f1, f2, f3⟩ := e1 e
    refine ⟨_, rfl, e0.symm, _, 20, rfl, rfl, by rw [e0]; omega, _, rfl, e0.symm, _, rfl, rfl, by rw [e0]; omega, six6 h8 t8 (h7F h8 t8 t7) t7 (h5F (h7F h8 t8 t7) t7 t5) t5, rfl, rfl, by show (6 : Nat) ≤ _; omega, BIF_ne (fun g => absurd f3 g) (fun _ => BIF_e (fun _ => ⟨_, [10, 11], rfl, rfl, by rw [f2]; decide, ?_⟩) (fun g => absurd f1 g))⟩
    rw [f2]
    exact ⟨rfl, rfl, h⟩
theorem Wider_ok : SpecOk Tryd.prog E 5 WiderPT := spec (.cons New_ok (.cons Fitting_ok (.cons N_ok (.cons Range_ok (.cons CheckH_ok (.cons Residuals_ok (.cons RValidate_ok (.cons Awake_ok .nil)))))))) (by kernel_rfl) fun args bo Q h => by
  obtain ⟨l, rfl, rfl, hl, h⟩ := h
  rw [Wider_vc]
  refine ⟨l, rfl, rfl, hl, fun r hr => ⟨r, rfl, rfl, hr, fun t8 t7 t5 h8 r1 hr1 a1 a2 b1 b2 c1 c2 d1 d2 => ⟨r1, 3, rfl, rfl, hr1, by omega, by unfold inR; omega, fun v r2 hr2 v1 v2 => ?_⟩⟩⟩
  refine ⟨fun _ x => 0 ≤ x.1 ∧ Near6 x.1 x.2.1 ∧ x.2.2.ok, fun _ x => x.1.toNat, ⟨(v, ⟨h8, t8, h7F h8 t8 t7, t7, h5F (h7F h8 t8 t7) t7 t5, t5⟩, r2), ⟨v1, near_fit a1 a2 b1 b2 c1 c2 d1 d2 (by omega), hr2⟩, rfl, rfl, rfl, rfl, trivial⟩, ?_⟩
  rintro ⟨n, s, q⟩ ⟨hn, hs, hq⟩
  dsimp only at hn hs hq ⊢
  refine BIF_d (fun h1 => ⟨q, 6, rfl, rfl, hq, by omega, by unfold inR; omega, fun k q1 hq1 k1 k2 => ⟨by omega, s.l, k.toNat, rfl, by omega, by show k.toNat < 6; omega, fun x hx => ⟨q1, -100, 100, rfl, rfl, hq1, by omega, by omega, by omega, fun d q2 hq2 e1 e2 => ?_⟩⟩⟩) (fun h1 => ?_)
  · have hb := near_get hs hn hx
    refine ⟨by omega, by omega, s.l, k.toNat, rfl, by omega, by show k.toNat < 6; omega, fun x2 hx2 => ⟨⟨x2.x, x.y + d⟩, rfl, ?_⟩⟩
    obtain rfl := Option.some.inj (hx2.symm.trans hx)
    obtain ⟨s', hs1, hs2⟩ := near_set hs hx e1 e2
    have hb2 : n ≤ 200 := by obtain ⟨ha, _⟩ := hs; omega
    refine ⟨by omega, (n - 1, s', q2), ⟨⟨by omega, hs2, hq2⟩, by dsimp only; omega⟩, rfl, ?_, rfl, rfl, trivial⟩
    rw [hs1]
    rfl
  · refine ⟨s.l, rfl, rfl, by show (6 : Nat) ≤ _; omega, BIF_ne (fun _ => ⟨rfl, rfl, h⟩) (fun hv => ⟨q, 0, 60, rfl, rfl, hq, by omega, by omega, by omega, fun t q1 hq1 t1 t2 => ⟨s.l, t, rfl, rfl, by show (6 : Nat) ≤ _; omega, q1, 60, rfl, rfl, hq1, by omega, by unfold inR; omega, fun g q2 hq2 g1 g2 => ⟨by omega, s.l, t + g, rfl, rfl, by show (6 : Nat) ≤ _; omega, s.l, rfl, rfl, by show (6 : Nat) ≤ _; omega, ?_⟩⟩⟩)⟩
    have u1 : -10000000000 ≤ (loF s.l).1 ∧ (loF s.l).1 ≤ 10000000000 := resF_in (.inl rfl)
    have u2 : -10000000000 ≤ (upF s.l).1 ∧ (upF s.l).1 ≤ 10000000000 := resF_in (.inr rfl)
    obtain ⟨M, hM, m1, m2, m3, m4, m5⟩ := mx4 _ _ u1 u2
    unfold mx at hM
    simp only [hM]
    have hM0 : 0 ≤ M := by omega
    rw [fdiv2 (x := M + 19999) (by omega) (by omega), S6.che hv (by omega) (by omega), S6.che hv (by omega) (by omega), S6.chl hv (by omega) (by omega), S6.chl hv (by omega) (by omega)]
    have fin : BIF (decide ((M + 19999) / 20000 > 1000)) (True ∧ True ∧ Q (.bool true) [] []) (∃ (l6 : List I2) (m2 : Int), [V.fs (vwI2.ls s.l), V.int .i64 ((M + 19999) / 20000)] = [V.fs (vwI2.ls l6), V.int .i64 m2] ∧ True ∧ l6.length ≤ 1000000000000 ∧ BIF (chE l6 m2 == 0) (BIF (((vwInt.ls (chL l6 m2)).length : Int) == 0) (True ∧ True ∧ Q (.bool true) [] []) (Q (.bool false) [] [])) (Q (.bool false) [] [])) := by
      refine BIF_d (fun _ => ⟨trivial, trivial, h⟩) (fun f1 => ⟨s.l, (M + 19999) / 20000, rfl, trivial, by show (6 : Nat) ≤ _; omega, BIF_e (fun _ => BIF_e (fun _ => ⟨trivial, trivial, h⟩) (fun f2 => ?_)) (fun f2 => absurd (S6.che hv (by omega) (by omega)) f2)⟩)
      rw [S6.chl hv (by omega) (by omega), ch6_most (by omega) (by omega) (by omega) (by omega)] at f2
      exact absurd rfl f2
    refine ⟨by omega, by omega, by omega, BIF_f rfl (BIF_f rfl (BIF_e (fun f1 => BIF_d (fun f2 => ?_) (fun _ => fin)) (fun _ => fin)))⟩
    have f3 : ch6 (loF s.l).1 (upF s.l).1 t = [] := by
      rw [View.ls_len] at f1
      exact List.eq_nil_of_length_eq_zero (by omega)
    rw [View.ls_len, ch6_wider g1 f3] at f2
    exact absurd f2 (by decide)
theorem Shifted_ok : SpecOk Tryd.prog E 6 ShiftedPT := spec (.cons New_ok (.cons Fitting_ok (.cons N_ok (.cons Range_ok (.cons Residuals_ok (.cons Mod_ok (.cons Awake_ok .nil))))))) (by kernel_rfl) fun args bo Q h => by
  obtain ⟨l, y, rfl, rfl, hl, hy, h⟩ := h
  rw [Shifted_vc]
  have m3 := Int.emod_nonneg y (show (401 : Int) ≠ 0 by omega)
  have m4 := Int.emod_lt_of_pos y (show (0 : Int) < 401 by omega)
  refine ⟨l, rfl, rfl, hl, fun r hr => ⟨r, rfl, rfl, hr, fun t8 t7 t5 h8 r1 hr1 a1 a2 b1 b2 c1 c2 d1 d2 => ⟨r1, 3, rfl, rfl, hr1, by omega, by unfold inR; omega, fun v r2 hr2 v1 v2 => ?_⟩⟩⟩
  refine ⟨fun _ x => 0 ≤ x.1 ∧ Near6 x.1 x.2.1 ∧ x.2.2.ok, fun _ x => x.1.toNat, ⟨(v, ⟨h8, t8, h7F h8 t8 t7, t7, h5F (h7F h8 t8 t7) t7 t5, t5⟩, r2), ⟨v1, near_fit a1 a2 b1 b2 c1 c2 d1 d2 (by omega), hr2⟩, rfl, rfl, rfl, rfl, trivial⟩, ?_⟩
  rintro ⟨n, s, q⟩ ⟨hn, hs, hq⟩
  dsimp only at hn hs hq ⊢
  refine BIF_d (fun h1 => ⟨q, 6, rfl, rfl, hq, by omega, by unfold inR; omega, fun k q1 hq1 k1 k2 => ⟨by omega, s.l, k.toNat, rfl, by omega, by show k.toNat < 6; omega, fun x hx => ⟨q1, -100, 100, rfl, rfl, hq1, by omega, by omega, by omega, fun d q2 hq2 e1 e2 => ?_⟩⟩⟩) (fun h1 => ?_)
  · have hb := near_get hs hn hx
    have hb2 : n ≤ 200 := by obtain ⟨ha, _⟩ := hs; omega
    rw [wrap64 (x := x.y + d) (by omega) (by omega), wrap64 (x := n - 1) (by omega) (by omega)]
    refine ⟨by omega, s.l, k.toNat, rfl, by omega, by show k.toNat < 6; omega, fun x2 hx2 => ⟨⟨x2.x, x.y + d⟩, rfl, ?_⟩⟩
    obtain rfl := Option.some.inj (hx2.symm.trans hx)
    obtain ⟨s', hs1, hs2⟩ := near_set hs hx e1 e2
    refine ⟨(n - 1, s', q2), ⟨⟨by omega, hs2, hq2⟩, by dsimp only; omega⟩, rfl, ?_, rfl, rfl, trivial⟩
    rw [hs1]
    rfl
  · refine ⟨y, 401, rfl, rfl, hy, by unfold inR; omega, q, 2, rfl, rfl, hq, by omega, by unfold inR; omega, fun k q1 hq1 k1 k2 => ⟨by omega, s.l, k.toNat, rfl, by omega, by show k.toNat < 6; omega, fun x hx => ⟨by omega, s.l, k.toNat, rfl, by omega, by show k.toNat < 6; omega, fun x2 hx2 => ?_⟩⟩⟩
    obtain rfl := Option.some.inj (hx2.symm.trans hx)
    have hb := near_get hs hn hx
    obtain ⟨ha, hb, hc, hd, he, hf⟩ := id hs
    rw [if_neg (show ¬ (401 : Int) < 1 by omega), wrap64 (x := y % 401 - 200) (by omega) (by omega), wrap64 (x := x2.y + (y % 401 - 200)) (by omega) (by omega), wrap64 (x := s.a + (y % 401 - 200)) (by omega) (by omega), wrap64 (x := s.c + (y % 401 - 200)) (by omega) (by omega), wrap64 (x := s.e + (y % 401 - 200)) (by omega) (by omega)]
    obtain ⟨z1, z2⟩ := shift_z hs hn (d := y % 401 - 200) (by omega) (by omega) (show k.toNat < 2 by omega) hx
    refine ⟨⟨x2.x, x2.y + (y % 401 - 200)⟩, rfl, s.l, rfl, rfl, by show (6 : Nat) ≤ _; omega, (s.up (y % 401 - 200)).l, rfl, rfl, by show (6 : Nat) ≤ _; omega, _, rfl, z1.symm, _, rfl, rfl, by rw [z1]; omega, four4 s.a s.b s.c s.d, rfl, rfl, by show (4 : Nat) ≤ _; omega, ?_⟩
    rw [z2, S6.los (hs.big hn), S6.ups (hs.big hn), S6.los (s := s.up (y % 401 - 200)) (hs.upB hn (by omega) (by omega)), S6.ups (s := s.up (y % 401 - 200)) (hs.upB hn (by omega) (by omega)), lo_four (hs.big hn), up_four]
    refine BIF_t rfl (BIF_t rfl (BIF_t rfl (BIF_t rfl (BIF_e (fun _ => BIF_e (fun _ => BIF_e (fun _ => BIF_e (fun _ => BIF_t rfl ⟨rfl, rfl, h⟩) (fun g => absurd rfl g)) (fun g => absurd rfl g)) (fun g => absurd ?_ g)) (fun g => absurd ?_ g)))))
    · unfold up6 S6.up; dsimp only; omega
    · unfold lo6 S6.up; dsimp only; omega
end Go.Proofs.YtbejkehbfdcaaaaDoor
