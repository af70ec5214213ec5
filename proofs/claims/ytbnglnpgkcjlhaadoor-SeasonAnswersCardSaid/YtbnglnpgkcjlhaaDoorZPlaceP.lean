/- The functions of the part 'Place' do what they are said to do. -/
import Derived.Test.YtbnglnpgkcjlhaaDoorZPlaceV
import Derived.Test.YtbnglnpgkcjlhaaDoorZKeepP
set_option linter.unusedVariables false
namespace Go.Proofs.YtbnglnpgkcjlhaaDoor
open Go Go.Vi
set_option maxRecDepth 100000
set_option maxHeartbeats 1000000
theorem cornersV_fl : cornersV = vwI3.fl corT := rfl
theorem vwPl_nvs (l : List Pl) : V.nv.nvs (vwPl.fl l) = true := (vws_ok 26 vwPl rfl).fl_nvs l
theorem Face_ok : SpecOk Tryd.prog E 70 FacePT := spec .nil (by kernel_rfl) fun args bo Q h => by
  obtain ⟨f, rfl, rfl, h⟩ := h
  rw [Face_vc]
  refine BIF_in (fun h1 => ?_) (fun h1 => ?_) <;> refine Qc (b1 ?_) h <;> simp only [okF, decide_eq_true_eq, decide_eq_false_iff_not, Bool.false_eq_true, false_iff] at * <;> omega
theorem Valid_ok : SpecOk Tryd.prog E 52 ValidPT := spec (.cons Face_ok .nil) (by kernel_rfl) fun args bo Q h => by
  obtain ⟨p, rfl, rfl, h⟩ := h
  rw [Valid_vc]
  have no : ¬ (okP p = true) → Q (.bool false) [] [] := fun hn => Qc (b1 (by simpa using hn)) h
  rw [okP_iff] at no
  refine BIF_in (fun h1 => no ?_) (fun h1 => BIF_in (fun h2 => no ?_) (fun h2 => BIF_in (fun h3 => no ?_) (fun h3 => BIF_in (fun h4 => no ?_) (fun h4 => BIF_in (fun h5 => no ?_) (fun h5 => BIF_in (fun h6 => no ?_) (fun h6 => ⟨p.f, rfl, rfl, BIF_in (fun h7 => ?_) (fun h7 => no ?_)⟩)))))) <;>
    simp only [okF, decide_eq_true_eq, decide_eq_false_iff_not] at * <;> try omega
  rw [wrap64 (x := p.a + p.b) (by omega) (by omega), wrap64 (by omega) (by omega)]
  exact Qc (b1 (by rw [okP_iff]; simp only [beq_iff_eq]; omega)) h
theorem Of_ok : SpecOk Tryd.prog E 71 OfPT := spec .nil (by kernel_rfl) fun args bo Q h => by
  obtain ⟨p, rfl, rfl, hp, h⟩ := h
  rw [Of_vc]
  have hp := okP_iff.1 hp
  refine ⟨⟨hp.1, hp.2.1⟩, corT, p.f.toNat, cornersV_fl, by omega, by rw [corT_len]; omega, fun x hx => ?_⟩
  obtain ⟨h1, h2, h3⟩ := corT_in x (List.mem_of_getElem? hx)
  refine ⟨h1, by omega, h2, by omega, h3, by omega, ?_⟩
  simp only [Nat.zero_add, Nat.mul_one]
  simp only [wv, wt, corI_of hx] at h
  exact h
theorem On_ok : SpecOk Tryd.prog E 72 OnPT := spec (.cons Valid_ok .nil) (by kernel_rfl) fun args bo Q h => by
  obtain ⟨n, g, rfl, rfl, hn, h⟩ := h
  rw [On_vc]
  have hn := okF_iff.1 hn
  refine ⟨hn, corT, n.toNat, cornersV_fl, by omega, by rw [corT_len]; omega, fun x hx => ?_⟩
  obtain ⟨h1, h2, h3⟩ := corT_in x (List.mem_of_getElem? hx)
  refine ⟨h1, wl g, x.x.toNat, rfl, by omega, by simp [wl]; omega, fun x1 hx1 => ⟨h2, wl g, x.y.toNat, rfl, by omega, by simp [wl]; omega, fun x2 hx2 => ⟨h3, wl g, x.z.toNat, rfl, by omega, by simp [wl]; omega, fun x3 hx3 => ⟨⟨n, x1, x2, x3⟩, rfl, rfl, ?_⟩⟩⟩⟩
  rw [wl_get g (by omega)] at hx1 hx2 hx3
  simp only [onP, corI_of hx] at h
  rw [Option.some.inj hx1, Option.some.inj hx2, Option.some.inj hx3] at h
  exact h
theorem Normal_ok : SpecOk Tryd.prog E 53 NormalPT := spec (.cons Valid_ok (.cons Of_ok (.cons On_ok .nil))) (by kernel_rfl) fun args bo Q h => by
  obtain ⟨p, rfl, rfl, h⟩ := h
  rw [Normal_vc]
  refine ⟨p, rfl, rfl, BIF_in (fun h1 => ?_) (fun h1 => ?_)⟩
  · simp only [Bool.not_eq_true'] at h1
    simp only [nrmF, h1] at h
    exact h
  · simp only [Bool.not_eq_false'] at h1
    simp only [nrmF, h1, if_true] at h
    refine ⟨p, rfl, rfl, h1, fun _ k => k ≤ 20 ∧ addrK p k = [], fun _ k => 20 - k, ⟨0, ⟨by omega, rfl⟩, rfl, trivial⟩, fun k ⟨hk, he⟩ => BIF_in (fun h2 => ?_) (fun h2 => ?_)⟩
    · simp only [decide_eq_true_eq] at h2
      have hs := addrK_succ p k
      rw [he, List.nil_append] at hs
      refine ⟨k, wt p, rfl, rfl, okF_iff.2 (by omega), BIF_in (fun h3 => ?_) (fun h3 => ?_)⟩
      · rw [if_pos h3] at hs
        rw [addrK_head p (by omega : k + 1 ≤ 20) hs] at h
        exact h
      · rw [if_neg (by simp [h3])] at hs
        exact ⟨by omega, k + 1, ⟨⟨by omega, hs⟩, by show 20 - (k + 1) < 20 - k; omega⟩, by simp, trivial⟩
    · simp only [decide_eq_false_iff_not] at h2
      have : k = 20 := by omega
      subst this
      rw [he] at h
      exact h
end Go.Proofs.YtbnglnpgkcjlhaaDoor
