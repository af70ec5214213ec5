/- The functions of the part 'Season' do what they are said to do. -/
import Derived.Test.YtbnglnpgkcjlhaaDoorZSeasonV
import Derived.Test.YtbnglnpgkcjlhaaDoorZClimP
set_option linter.unusedVariables false
namespace Go.Proofs.YtbnglnpgkcjlhaaDoor
open Go Go.Vi
set_option maxRecDepth 100000
set_option maxHeartbeats 1000000
theorem RFind_ok : SpecOk Tryd.prog E 33 RFindPT := spec .nil (by kernel_rfl) fun args bo Q h => by
  obtain ⟨l, c, rfl, rfl, hl, h⟩ := h
  rw [RFind_vc]
  simp only [View.ls_len]
  refine ⟨fun _ i => ∀ (j : Nat) (r : I2), j < i → l[j]? = some r → (r.x == c) = false, fun _ i => l.length - i, ⟨0, fun j r hj => by omega, rfl, trivial⟩, fun i hno => BIF_d (fun h1 => ⟨l, rfl, by omega, fun n hn => ?_⟩) (fun h1 => ?_)⟩
  · rw [Int.toNat_natCast] at hn
    refine BIF_e (fun k => ⟨l, rfl, by omega, fun m hm => ?_⟩) (fun k => ⟨by omega, i + 1, ⟨fun j y hj hy => ?_, by dsimp only; omega⟩, by simp, trivial⟩)
    · rw [Int.toNat_natCast] at hm
      obtain rfl := Option.some.inj (hm.symm.trans hn)
      have hf : l.find? (fun r => r.x == c) = some m := by
        rw [List.find?_eq_some_iff_getElem]
        refine ⟨by simp [k], i, by omega, (List.getElem?_eq_some_iff.1 hn).2, fun j hj => ?_⟩
        rw [hno j _ hj (List.getElem?_eq_getElem (by omega))]
        simp
      unfold findF at h
      rw [hf] at h
      exact h
    · by_cases e : j = i
      · subst e; rw [hn] at hy; obtain rfl := Option.some.inj hy; simp [k]
      · exact hno j y (by omega) hy
  · have hf : l.find? (fun r => r.x == c) = none := by
      rw [List.find?_eq_none]
      intro x hx
      obtain ⟨j, hj⟩ := List.mem_iff_getElem?.1 hx
      rw [hno j x (by have := (List.getElem?_eq_some_iff.1 hj).1; omega) hj]
      simp
    unfold findF at h
    rw [hf] at h
    exact h
theorem Examine_ok : SpecOk Tryd.prog E 39 ExaminePT := spec (.cons CValidate_ok (.cons Validate_ok (.cons Valid_ok .nil))) (by kernel_rfl) fun args bo Q h => by
  obtain ⟨c, r, rfl, rfl, hc, hr, h⟩ := h
  rw [Examine_vc]
  unfold seaE at h
  refine ⟨c, rfl, rfl, hc, BIF_ne (fun e => ?_) (fun e => ⟨r.rd, rfl, rfl, hr, BIF_ne (fun g => ?_) (fun g => ⟨r.pl, rfl, rfl, ?_⟩)⟩)⟩
  · rw [if_pos e] at h; exact h
  · rw [if_neg (by omega), if_pos g] at h; exact h
  · rw [if_neg (by omega), if_neg (by omega)] at h
    unfold datE at h
    refine BIF_n (fun k => ?_) (fun k => BIF_d (fun k2 => ?_) (fun k2 => BIF_d (fun k3 => ?_) (fun k3 => ?_)))
    · rw [if_neg (fun hh => by rw [hh.1] at k; cases k)] at h; exact h
    · rw [if_neg (fun hh => by have := hh.2; rw [if_neg (by omega)] at this; cases this)] at h; exact h
    · rw [if_neg (fun hh => by have := hh.2; rw [if_neg (by omega)] at this; cases this)] at h; exact h
    · rw [if_pos ⟨k, if_pos (by omega)⟩] at h; exact h
theorem SCheck_ok : SpecOk Tryd.prog E 17 SCheckPT := spec (.cons Examine_ok (.cons CLookup_ok .nil)) (by kernel_rfl) fun args bo Q h => by
  obtain ⟨c, r, rfl, rfl, hc, hr, h⟩ := h
  rw [SCheck_vc]
  simp only [View.ls_len]
  unfold seaL at h
  refine ⟨c, r, rfl, trivial, hc, hr, BIF_ne (fun e => ?_) (fun e => ?_)⟩
  · rw [if_neg e] at h; exact h
  rw [if_pos e] at h
  have hv := (seaE_0.1 e).2.1
  have lb : ∀ {k : Int}, -10000 ≤ (lookF c k r.pl r.time).1.me ∧ (lookF c k r.pl r.time).1.me ≤ 20000 ∧ 0 ≤ (lookF c k r.pl r.time).1.sp ∧ (lookF c k r.pl r.time).1.sp ≤ 20000 := look_bnd
  refine ⟨fun _ x => x.1 ≤ r.rd.length ∧ seaK c r (r.rd.take x.1) = x.2, fun _ x => r.rd.length - x.1, ⟨(0, []), ⟨Nat.zero_le _, rfl⟩, rfl, rfl, trivial⟩, ?_⟩
  · rintro ⟨i, l⟩ hI
    dsimp only at hI ⊢
    obtain ⟨hi, he⟩ := hI
    have hlen : l.length ≤ i := by rw [← he]; exact seaK_bnd c r i
    refine BIF_d (fun h1 => ⟨r.rd, rfl, by omega, fun x hx => ⟨c, x.x, r.pl, r.time, rfl, trivial, hc, ?_⟩⟩) (fun h1 => ?_)
    · rw [Int.toNat_natCast] at hx
      have xb := val_bnd hv (List.mem_of_getElem? hx)
      have lb := lb (k := x.x)
      refine BIF_e (fun k => ⟨by omega, by omega, ?_⟩) (fun k => ⟨by omega, (i + 1, l), ⟨⟨by dsimp only; omega, seaK_f hx he (seaR_no k)⟩, by dsimp only; omega⟩, rfl, rfl, (vws_ok 3 vwInt rfl).fl_nvs _, trivial⟩)
      rw [seaR_max k]
      refine BIF_in (fun k2 => ⟨x.x, rfl, l, rfl, rfl, by simp only [List.length_cons, List.length_nil]; omega, by omega, (i + 1, l ++ [x.x]), ⟨⟨by dsimp only; omega, seaK_t hx he k2⟩, by dsimp only; omega⟩, rfl, rfl, (vws_ok 3 vwInt rfl).fl_nvs _, trivial⟩) (fun k2 => ⟨by omega, (i + 1, l), ⟨⟨by dsimp only; omega, seaK_f hx he k2⟩, by dsimp only; omega⟩, rfl, rfl, (vws_ok 3 vwInt rfl).fl_nvs _, trivial⟩)
    · have : r.rd.length = i := by omega
      subst this
      rw [List.take_length] at he
      rw [he] at h
      rw [e] at h
      exact ⟨l, rfl, rfl, h⟩
theorem RSCheck_ok : SpecOk Tryd.prog E 18 RSCheckPT := spec (.cons RCValidate_ok (.cons RValidate_ok (.cons RValid_ok (.cons RIn1_ok (.cons RLookup_ok .nil))))) (by kernel_rfl) fun args bo Q h => by
  obtain ⟨c, r, rfl, rfl, hc, hr, h⟩ := h
  rw [RSCheck_vc]
  simp only [View.ls_len]
  unfold seaL at h
  have hE : seaE c r = if cvF c ≠ 0 then cvF c else if valF r.rd ≠ 0 then valF r.rd else if okP r.pl = true ∧ datE r.time = 0 then 0 else 1 := rfl
  refine ⟨c, rfl, trivial, hc, BIF_ne (fun e => ?_) (fun e => ⟨r.rd, rfl, trivial, hr, BIF_ne (fun g => ?_) (fun g => ⟨r.pl, rfl, trivial, BIF_n (fun k => ?_) (fun k => ⟨r.time, rfl, trivial, BIF_n (fun k2 => ?_) (fun k2 => ?_)⟩)⟩)⟩)⟩
  · rw [hE, if_pos e, if_neg e] at h; exact h
  · have e1 : seaE c r = valF r.rd := by rw [hE, if_neg (by omega), if_pos g]
    rw [e1, if_neg g] at h; exact h
  · have e1 : seaE c r = 1 := by rw [hE, if_neg (by omega), if_neg (by omega), if_neg (fun hh => by rw [hh.1] at k; cases k)]
    rw [e1, if_neg (by omega)] at h; exact h
  · have e1 : seaE c r = 1 := by rw [hE, if_neg (by omega), if_neg (by omega), if_neg (fun hh => by rw [hh.2] at k2; cases k2)]
    rw [e1, if_neg (by omega)] at h; exact h
  have e : seaE c r = 0 := seaE_0.2 ⟨by omega, by omega, k, by simpa using k2⟩
  rw [if_pos e] at h
  have hv := (seaE_0.1 e).2.1
  have lb : ∀ {k : Int}, -10000 ≤ (lookF c k r.pl r.time).1.me ∧ (lookF c k r.pl r.time).1.me ≤ 20000 ∧ 0 ≤ (lookF c k r.pl r.time).1.sp ∧ (lookF c k r.pl r.time).1.sp ≤ 20000 := look_bnd
  refine ⟨fun _ x => x.1 ≤ r.rd.length ∧ seaK c r (r.rd.take x.1) = x.2, fun _ x => r.rd.length - x.1, ⟨(0, []), ⟨Nat.zero_le _, rfl⟩, rfl, rfl, trivial⟩, ?_⟩
  · rintro ⟨i, l⟩ hI
    dsimp only at hI ⊢
    obtain ⟨hi, he⟩ := hI
    have hlen : l.length ≤ i := by rw [← he]; exact seaK_bnd c r i
    refine BIF_d (fun h1 => ⟨r.rd, rfl, by omega, fun x hx => ⟨c, x.x, r.pl, r.time, rfl, trivial, hc, ?_⟩⟩) (fun h1 => ?_)
    · rw [Int.toNat_natCast] at hx
      have xb := val_bnd hv (List.mem_of_getElem? hx)
      have lb := lb (k := x.x)
      refine BIF_e (fun k => ⟨by omega, BIF_d (fun k2 => ?_) (fun k2 => ⟨by omega, BIF_d (fun k3 => ?_) (fun k3 => ?_)⟩)⟩) (fun k => ⟨by omega, (i + 1, l), ⟨⟨by dsimp only; omega, seaK_f hx he (seaR_no k)⟩, by dsimp only; omega⟩, rfl, rfl, (vws_ok 3 vwInt rfl).fl_nvs _, trivial⟩)
      · exact ⟨x.x, rfl, l, rfl, rfl, by simp only [List.length_cons, List.length_nil]; omega, by omega, (i + 1, l ++ [x.x]), ⟨⟨by dsimp only; omega, seaK_t hx he (seaR_1 k k2)⟩, by dsimp only; omega⟩, rfl, rfl, (vws_ok 3 vwInt rfl).fl_nvs _, trivial⟩
      · exact ⟨x.x, rfl, l, rfl, rfl, by simp only [List.length_cons, List.length_nil]; omega, by omega, (i + 1, l ++ [x.x]), ⟨⟨by dsimp only; omega, seaK_t hx he (seaR_2 k k3)⟩, by dsimp only; omega⟩, rfl, rfl, (vws_ok 3 vwInt rfl).fl_nvs _, trivial⟩
      · exact ⟨by omega, (i + 1, l), ⟨⟨by dsimp only; omega, seaK_f hx he (seaR_3 k2 k3)⟩, by dsimp only; omega⟩, rfl, rfl, (vws_ok 3 vwInt rfl).fl_nvs _, trivial⟩
    · have : r.rd.length = i := by omega
      subst this
      rw [List.take_length] at he
      rw [he] at h
      rw [e] at h
      exact ⟨l, rfl, rfl, h⟩
theorem SFar_ok : SpecOk Tryd.prog E 20 SFarPT := spec (.cons Find_ok (.cons Examine_ok (.cons CLookup_ok .nil))) (by kernel_rfl) fun args bo Q h => by
  obtain ⟨c, r, k, rfl, rfl, hc, hr, h⟩ := h
  rw [SFar_vc]
  refine ⟨r.rd, k, rfl, rfl, hr, c, r, rfl, rfl, hc, hr, BIF_ne (fun e => ?_) (fun e => BIF_n (fun g => ?_) (fun g => ⟨c, k, r.pl, r.time, rfl, rfl, hc, BIF_ne (fun e2 => ?_) (fun e2 => ?_)⟩))⟩
  · rw [far_no (fun hh => e hh.1)] at h; exact h
  · rw [far_no (fun hh => by rw [hh.2.1] at g; cases g)] at h; exact h
  · rw [far_no (fun hh => e2 hh.2.2)] at h; exact h
  · have b1 := find_bnd (seaE_0.1 e).2.1 k
    have b2 : -10000 ≤ (lookF c k r.pl r.time).1.me ∧ (lookF c k r.pl r.time).1.me ≤ 20000 ∧ _ := look_bnd
    unfold farF at h
    rw [if_pos ⟨e, g, e2⟩] at h
    exact ⟨by omega, h⟩
theorem RSFar_ok : SpecOk Tryd.prog E 21 RSFarPT := spec (.cons RSCheck_ok (.cons RFind_ok (.cons RLookup_ok .nil))) (by kernel_rfl) fun args bo Q h => by
  obtain ⟨c, r, k, rfl, rfl, hc, hr, h⟩ := h
  rw [RSFar_vc]
  refine ⟨c, r, rfl, rfl, hc, hr, BIF_ne (fun e => ?_) (fun e => ⟨r.rd, k, rfl, rfl, hr, c, k, r.pl, r.time, rfl, rfl, hc, BIF_n (fun g => ?_) (fun g => BIF_ne (fun e2 => ?_) (fun e2 => ?_))⟩)⟩
  · rw [far_no (fun hh => e hh.1)] at h; exact h
  · rw [far_no (fun hh => by rw [hh.2.1] at g; cases g)] at h; exact h
  · rw [far_no (fun hh => e2 hh.2.2)] at h; exact h
  · have b1 := find_bnd (seaE_0.1 e).2.1 k
    have b2 : -10000 ≤ (lookF c k r.pl r.time).1.me ∧ (lookF c k r.pl r.time).1.me ≤ 20000 ∧ _ := look_bnd
    unfold farF at h
    rw [if_pos ⟨e, g, e2⟩] at h
    exact ⟨by omega, h⟩
end Go.Proofs.YtbnglnpgkcjlhaaDoor
