/- The functions of the part 'Clock' do what they are said to do. -/
import Derived.Test.YtbnglnpgkcjlhaaDoorZClockV
set_option linter.unusedVariables false
namespace Go.Proofs.YtbnglnpgkcjlhaaDoor
open Go Go.Vi
set_option maxRecDepth 100000
set_option maxHeartbeats 1000000
theorem CIn_ok : SpecOk Tryd.prog E 73 CInPT := spec .nil (by kernel_rfl) fun args bo Q h => by
  obtain ⟨t, rfl, rfl, h⟩ := h
  rw [CIn_vc]
  unfold datE at h
  by_cases h1 : t ≥ 0 <;> by_cases h2 : t ≤ 52595999
  · rw [if_pos ⟨h1, h2⟩] at h; rw [decide_eq_true h1, decide_eq_true h2]; exact h
  · rw [if_neg (fun hh => h2 hh.2)] at h; rw [decide_eq_true h1, decide_eq_false h2]; exact h
  · rw [if_neg (fun hh => h1 hh.1)] at h; rw [decide_eq_false h1]; exact h
  · rw [if_neg (fun hh => h1 hh.1)] at h; rw [decide_eq_false h1]; exact h
theorem CFirst_ok : SpecOk Tryd.prog E 74 CFirstPT := spec .nil (by kernel_rfl) fun args bo Q h => by
  obtain ⟨y, rfl, rfl, h1, h2, h⟩ := h
  rw [CFirst_vc, wdiv (by omega) (by omega) (by omega)]
  unfold yrD at h
  exact ⟨by omega, by omega, by omega, by omega, by omega, h⟩
theorem CLengths_ok : SpecOk Tryd.prog E 75 CLengthsPT := spec .nil (by kernel_rfl) fun args bo Q h => by
  obtain ⟨y, rfl, rfl, h1, h2, h⟩ := h
  rw [CLengths_vc, mod_t (by omega)]
  unfold feb at h
  refine BIF_e (fun e => ?_) (fun e => ?_)
  · rw [if_pos e] at h; exact ⟨by omega, h⟩
  · rw [if_neg e] at h; exact h
theorem CDate_ok : SpecOk Tryd.prog E 54 CDatePT := spec (.cons CIn_ok (.cons CFirst_ok (.cons CLengths_ok .nil))) (by kernel_rfl) fun args bo Q h => by
  obtain ⟨t, rfl, rfl, h⟩ := h
  rw [CDate_vc]
  refine ⟨t, rfl, rfl, BIF_n (fun e => ?_) (fun e => ?_)⟩
  · have hn : ¬ (0 ≤ t ∧ t ≤ 52595999) := fun hh => by unfold datE at e; rw [if_pos hh] at e; cases e
    have h := h 0 0 0 0
    rw [monF_no hn] at h
    unfold datE at h
    rw [if_neg hn] at h
    exact h
  · have hy : 0 ≤ t ∧ t ≤ 52595999 := by
      unfold datE at e; split at e
      · assumption
      · cases e
    have hd : datE t = 0 := by unfold datE; rw [if_pos hy]
    have y0 : yrD 2000 = 0 := by decide
    have y9 : yrD 2100 = 36525 := by decide
    refine ⟨fun _ y => 2000 ≤ y ∧ y ≤ 2099 ∧ 1440 * yrD y ≤ t, fun _ y => (2100 - y).toNat, ⟨2000, ⟨by omega, by omega, by omega⟩, rfl, rfl, trivial⟩, fun y ⟨a1, a2, a3⟩ => ⟨by omega, y + 1, rfl, rfl, by omega, by omega, BIF_d (fun b => ⟨by omega, y + 1, ⟨⟨by omega, ?_, b⟩, by dsimp only; omega⟩, rfl, rfl, trivial⟩) (fun b => ?_)⟩⟩
    · by_cases c : y = 2099
      · subst c; rw [show (2099 : Int) + 1 = 2100 from rfl, y9] at b; omega
      · omega
    · have ys := yr_succ (y := y)
      have fb := feb_in y
      refine ⟨y, rfl, rfl, by omega, by omega, by omega, y, rfl, rfl, by omega, by omega, ?_⟩
      rw [wdiv (by omega) (by omega) (by omega)]
      refine ⟨fun _ x => x.2.2 = y ∧ x.1 ≤ 12 ∧ 0 ≤ x.2.1 ∧ x.2.1 = (t - 1440 * yrD y) / 1440 - cumD y (x.1 + 1), fun _ x => 12 - x.1, ⟨(0, (t - 1440 * yrD y) / 1440, y), ⟨rfl, by omega, by dsimp only; omega, by simp [cum_1]⟩, rfl, rfl, trivial⟩, ?_⟩
      rintro ⟨i, d, z⟩ hI
      dsimp only at hI ⊢
      obtain ⟨rfl, c1, c2, c3⟩ := hI
      refine BIF_d (fun c4 => ⟨lens z, rfl, rfl, by omega, fun x hx => ?_⟩) (fun c4 => ?_)
      · rw [Int.toNat_natCast] at hx
        obtain ⟨g1, rfl⟩ := lens_get hx
        have cs := cum_succ (y := z) (m := i + 1) (by omega) (by omega)
        have dd := dys_in z (i + 1)
        have cn := cum_le (y := z) (m := 1) (m' := i + 1) (by omega) (by omega) (by omega)
        rw [cum_1] at cn
        refine BIF_d (fun c5 => ⟨by omega, ?_⟩) (fun c5 => ⟨by omega, by omega, by omega, (i + 1, d - dysF z (i + 1), z), ⟨⟨rfl, by omega, by dsimp only; omega, ?_⟩, by dsimp only; omega⟩, by simp, by simp, trivial⟩)
        · have hm : monF t = (i : Int) + 1 := monF_eq (isM_of (y := z) (by omega) (by omega) (by omega) (by omega) (by omega) (fun _ => by omega) (by omega))
          have h := h z (d + 1) (IntKind.i64.wrap (((t - 1440 * yrD z).tmod 1440).tdiv 60)) ((t - 1440 * yrD z).tmod 60)
          rw [hm, hd] at h
          exact h
        · dsimp only
          push_cast
          omega
      · exfalso
        have e12 : (i : Int) = 12 := by omega
        rw [e12, show (12 : Int) + 1 = 13 from rfl, cum_13] at c3
        omega
theorem RIn1_ok : SpecOk Tryd.prog E 30 RIn1PT := spec .nil (by kernel_rfl) fun args bo Q h => by
  obtain ⟨t, rfl, rfl, h⟩ := h
  rw [RIn1_vc]
  unfold datE at h
  by_cases h1 : t ≥ 0 <;> by_cases h2 : t ≤ 52595999
  · rw [if_pos ⟨h1, h2⟩] at h; rw [decide_eq_true h1, decide_eq_true h2]; exact h
  · rw [if_neg (fun hh => h2 hh.2)] at h; rw [decide_eq_true h1, decide_eq_false h2]; exact h
  · rw [if_neg (fun hh => h1 hh.1)] at h; rw [decide_eq_false h1]; exact h
  · rw [if_neg (fun hh => h1 hh.1)] at h; rw [decide_eq_false h1]; exact h
theorem RDays_ok : SpecOk Tryd.prog E 60 RDaysPT := spec .nil (by kernel_rfl) fun args bo Q h => by
  obtain ⟨y, m, rfl, rfl, h1, h2, h3, h4, h⟩ := h
  rw [RDays_vc, mod_t (by omega)]
  unfold dysF at h
  refine BIF_d (fun e => absurd e (by omega)) fun _ => BIF_d (fun e => absurd e (by omega)) fun _ => BIF_d (fun e => absurd e (by omega)) fun _ => BIF_d (fun e => absurd e (by omega)) fun _ => ?_
  refine BIF_e (fun e => ?_) fun e1 => BIF_e (fun e => ?_) fun e2 => BIF_e (fun e => ?_) fun e3 => BIF_e (fun e => ?_) fun e4 => BIF_e (fun e => ?_) fun e5 => ?_
  · rw [if_pos (by omega)] at h; exact h
  · rw [if_pos (by omega)] at h; exact h
  · rw [if_pos (by omega)] at h; exact h
  · rw [if_pos (by omega)] at h; exact h
  · rw [if_neg (by omega), if_pos e] at h
    unfold feb at h
    refine BIF_e (fun e => ?_) (fun e => ?_)
    · rw [if_pos e] at h; exact h
    · rw [if_neg e] at h; exact h
  · rw [if_neg (by omega), if_neg e5] at h; exact h
theorem RBefore_ok : SpecOk Tryd.prog E 48 RBeforePT := spec (.cons RDays_ok .nil) (by kernel_rfl) fun args bo Q h => by
  obtain ⟨y, m, rfl, rfl, h1, h2, h3, h4, h⟩ := h
  rw [RBefore_vc]
  have y0 : yrD 2000 = 0 := by decide
  have y9 : yrD 2100 = 36525 := by decide
  refine ⟨fun _ x => 2000 ≤ x.1 ∧ x.1 ≤ y ∧ x.2 = yrD x.1, fun _ x => (y - x.1).toNat, ⟨(2000, 0), ⟨by dsimp only; omega, by dsimp only; omega, y0.symm⟩, rfl, trivial⟩, ?_⟩
  rintro ⟨x, n⟩ hI
  dsimp only at hI ⊢
  obtain ⟨a1, a2, rfl⟩ := hI
  have hb := yr_le (show x ≤ 2100 by omega)
  have hb2 := yr_le (show 2000 ≤ x by omega)
  refine BIF_d (fun b => ⟨by omega, ?_⟩) (fun b => ?_)
  · have ys := yr_succ (y := x)
    unfold feb at ys
    rw [mod_t (by omega)]
    refine BIF_e (fun e => ?_) (fun e => ?_)
    · rw [if_pos e] at ys
      exact ⟨by omega, by omega, (x + 1, yrD x + 365 + 1), ⟨⟨by dsimp only; omega, by dsimp only; omega, by dsimp only; omega⟩, by dsimp only; omega⟩, rfl, trivial⟩
    · rw [if_neg e] at ys
      exact ⟨by omega, (x + 1, yrD x + 365), ⟨⟨by dsimp only; omega, by dsimp only; omega, by dsimp only; omega⟩, by dsimp only; omega⟩, rfl, trivial⟩
  · have : x = y := by omega
    subst this
    refine ⟨fun _ z => 1 ≤ z.1 ∧ z.1 ≤ m ∧ z.2 = yrD x + cumD x z.1, fun _ z => (m - z.1).toNat, ⟨(1, yrD x), ⟨by dsimp only; omega, by dsimp only; omega, by dsimp only; rw [cum_1]; omega⟩, rfl, trivial⟩, ?_⟩
    rintro ⟨k, n⟩ hI
    dsimp only at hI ⊢
    obtain ⟨c1, c2, rfl⟩ := hI
    have g1 := cum_le (y := x) (m := 1) (m' := k) (by omega) (by omega) (by omega)
    have g2 := cum_le (y := x) (m := k) (m' := 13) (by omega) (by omega) (by omega)
    rw [cum_1] at g1
    rw [cum_13] at g2
    have fb := feb_in x
    refine BIF_d (fun d => ⟨x, k, rfl, rfl, h1, h2, c1, by omega, ?_⟩) (fun d => ?_)
    · have cs := cum_succ (y := x) (m := k) (by omega) (by omega)
      have dd := dys_in x k
      exact ⟨by omega, by omega, (k + 1, yrD x + cumD x k + dysF x k), ⟨⟨by dsimp only; omega, by dsimp only; omega, by dsimp only; omega⟩, by dsimp only; omega⟩, rfl, trivial⟩
    · have : k = m := by omega
      subst this
      refine ⟨by omega, ?_⟩
      unfold befF at h
      rw [Int.mul_comm]
      exact h
theorem RDate_ok : SpecOk Tryd.prog E 32 RDatePT := spec (.cons RIn1_ok (.cons RBefore_ok .nil)) (by kernel_rfl) fun args bo Q h => by
  obtain ⟨t, rfl, rfl, h⟩ := h
  rw [RDate_vc]
  refine ⟨t, rfl, rfl, BIF_n (fun e => ?_) (fun e => ?_)⟩
  · have hn : ¬ (0 ≤ t ∧ t ≤ 52595999) := fun hh => by unfold datE at e; rw [if_pos hh] at e; cases e
    have h := h 0 0 0 0
    rw [monF_no hn] at h
    unfold datE at h
    rw [if_neg hn] at h
    exact h
  · have hy : 0 ≤ t ∧ t ≤ 52595999 := by
      unfold datE at e; split at e
      · assumption
      · cases e
    have hd : datE t = 0 := by unfold datE; rw [if_pos hy]
    have y0 : yrD 2000 = 0 := by decide
    have y9 : yrD 2100 = 36525 := by decide
    have b1 : ∀ y, befF y 1 = 1440 * yrD y := fun y => by unfold befF; rw [cum_1]; omega
    refine ⟨fun _ y => 2000 ≤ y ∧ y ≤ 2099 ∧ 1440 * yrD y ≤ t ∧ t < 1440 * yrD (y + 1), ⟨fun _ y => 2000 ≤ y ∧ y ≤ 2099 ∧ 1440 * yrD y ≤ t, fun _ y => (2100 - y).toNat, ⟨2000, ⟨by omega, by omega, by omega⟩, rfl, rfl, trivial⟩, fun y ⟨a1, a2, a3⟩ => BIF_d (fun b => ⟨by omega, y + 1, 1, rfl, rfl, by omega, by omega, by omega, by omega, BIF_d (fun c => ⟨by omega, y + 1, ⟨⟨by omega, by omega, by rw [← b1]; exact c⟩, by dsimp only; omega⟩, rfl, rfl, trivial⟩) (fun c => ⟨y, ⟨a1, a2, a3, by rw [b1] at c; omega⟩, rfl, rfl, trivial⟩)⟩) (fun b => ⟨y, ⟨a1, a2, a3, ?_⟩, rfl, rfl, trivial⟩)⟩, fun y ⟨a1, a2, a3, a4⟩ => ?_⟩
    · have : y = 2099 := by omega
      subst this
      rw [show (2099 : Int) + 1 = 2100 from rfl, y9]
      omega
    · refine ⟨fun _ x => x.1 = y ∧ IsM t y x.2, ⟨fun _ x => x.1 = y ∧ 1 ≤ x.2 ∧ x.2 ≤ 12 ∧ befF y x.2 ≤ t, fun _ x => (12 - x.2).toNat, ⟨(y, 1), ⟨rfl, by dsimp only; omega, by dsimp only; omega, by dsimp only; rw [b1]; exact a3⟩, rfl, rfl, trivial⟩, ?_⟩, ?_⟩
      · rintro ⟨z, m⟩ hI
        dsimp only at hI ⊢
        obtain ⟨rfl, c1, c2, c3⟩ := hI
        refine BIF_d (fun d => ⟨by omega, z, m + 1, rfl, rfl, by omega, by omega, by omega, by omega, BIF_d (fun g => ⟨by omega, (z, m + 1), ⟨⟨rfl, by dsimp only; omega, by dsimp only; omega, g⟩, by dsimp only; omega⟩, rfl, rfl, trivial⟩) (fun g => ⟨(z, m), ⟨rfl, isM_of (m := m) a1 a2 c1 c2 c3 (fun _ => by unfold befF at g; omega) a4⟩, rfl, rfl, trivial⟩)⟩) (fun d => ⟨(z, m), ⟨rfl, isM_of (m := m) a1 a2 c1 c2 c3 (fun _ => by omega) a4⟩, rfl, rfl, trivial⟩)
      · rintro ⟨z, m⟩ hI
        dsimp only at hI ⊢
        obtain ⟨rfl, hm⟩ := hI
        have hb := bef_year hm
        have l1 := hm.lo
        have l2 : 0 ≤ befF z m := by
          unfold befF
          have g1 := cum_le (y := z) (m := 1) (m' := m) (by omega) hm.m1 (by have := hm.m2; omega)
          rw [cum_1] at g1
          have := yr_le a1
          omega
        refine ⟨z, m, rfl, rfl, a1, a2, hm.m1, hm.m2, by omega, ?_, ?_⟩
        · rw [wdiv (by omega) (by omega) (by omega)]
          omega
        · have h := h z (1 + IntKind.i64.wrap ((t - befF z m).tdiv 1440)) ((IntKind.i64.wrap ((t - befF z m).tdiv 60)).tmod 24) ((t - befF z m).tmod 60)
          rw [monF_eq hm, hd] at h
          exact h
end Go.Proofs.YtbnglnpgkcjlhaaDoor
