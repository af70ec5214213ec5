/- The functions of the part 'Ref02' do what they are said to do. -/
import Derived.Test.YtbnglnpgkcjlhaaDoorZRef02V
import Derived.Test.YtbnglnpgkcjlhaaDoorZPlaceP
set_option linter.unusedVariables false
namespace Go.Proofs.YtbnglnpgkcjlhaaDoor
open Go Go.Vi
set_option maxRecDepth 100000
set_option maxHeartbeats 1000000
theorem RValid_ok : SpecOk Tryd.prog E 41 RValidPT := spec .nil (by kernel_rfl) fun args bo Q h => by
  obtain ⟨p, rfl, rfl, h⟩ := h
  rw [RValid_vc]
  have no : ¬ (okP p = true) → Q (.bool false) [] [] := fun hn => Qc (b1 (by simpa using hn)) h
  rw [okP_iff] at no
  repeat' first
    | (refine BIF_d (fun hh => ?_) (fun hh => no (by omega)))
    | (refine And.intro (by omega) ?_)
  exact Qc (b1 (by rw [okP_iff]; simp only [beq_iff_eq]; omega)) h
theorem RCorners_ok : SpecOk Tryd.prog E 83 RCornersPT := spec .nil (by kernel_rfl) fun args bo Q h => by
  obtain ⟨n, rfl, rfl, h⟩ := h
  rw [RCorners_vc]
  refine BIF_d (fun h1 => ?_) (fun h1 => BIF_d (fun h2 => ?_) (fun h2 => ?_))
  · rw [show cornF n = (⟨0, 0, 0⟩, 1) by simp [cornF, okF]; omega] at h; exact h
  · rw [show cornF n = (⟨0, 0, 0⟩, 1) by simp [cornF, okF]; omega] at h; exact h
  · have hn : n = 0 ∨ n = 1 ∨ n = 2 ∨ n = 3 ∨ n = 4 ∨ n = 5 ∨ n = 6 ∨ n = 7 ∨ n = 8 ∨ n = 9 ∨ n = 10 ∨ n = 11 ∨ n = 12 ∨ n = 13 ∨ n = 14 ∨ n = 15 ∨ n = 16 ∨ n = 17 ∨ n = 18 ∨ n = 19 := by omega
    clear h1 h2
    rcases hn with rfl | rfl | rfl | rfl | rfl | rfl | rfl | rfl | rfl | rfl | rfl | rfl | rfl | rfl | rfl | rfl | rfl | rfl | rfl | rfl <;>
      (refine ⟨by decide, ?_⟩
       first
       | exact ⟨by decide, by decide, h⟩
       | exact ⟨by decide, by decide, by decide, h⟩)
theorem RWeights_ok : SpecOk Tryd.prog E 78 RWeightsPT := spec (.cons RCorners_ok .nil) (by kernel_rfl) fun args bo Q h => by
  obtain ⟨p, rfl, rfl, hp, h⟩ := h
  rw [RWeights_vc]
  have hp := okP_iff.1 hp
  have hc : cornF p.f = (corI p.f, 0) := by simp [cornF, okF_iff.2 ⟨hp.1, hp.2.1⟩]
  obtain ⟨h1, h2, h3⟩ := corI_in p.f
  refine ⟨p.f, rfl, rfl, ?_⟩
  rw [hc]
  dsimp only
  refine ⟨h1, by omega, h2, by omega, h3, by omega, ?_⟩
  simp only [Nat.zero_add, Nat.mul_one]
  exact h
theorem ROn_ok : SpecOk Tryd.prog E 79 ROnPT := spec (.cons RCorners_ok .nil) (by kernel_rfl) fun args bo Q h => by
  obtain ⟨n, g, rfl, rfl, hn, hg, h⟩ := h
  rw [ROn_vc]
  have hc : cornF n = (corI n, 0) := by simp [cornF, hn]
  obtain ⟨h1, h2, h3⟩ := corI_in n
  refine ⟨n, rfl, rfl, ?_⟩
  rw [hc]
  dsimp only
  refine ⟨h1, wl g, (corI n).x.toNat, rfl, by omega, by simp [wl]; omega, fun x1 hx1 => ⟨h2, wl g, (corI n).y.toNat, rfl, by omega, by simp [wl]; omega, fun x2 hx2 => ⟨h3, wl g, (corI n).z.toNat, rfl, by omega, by simp [wl]; omega, fun x3 hx3 => ?_⟩⟩⟩
  rw [wl_get g (by omega)] at hx1 hx2 hx3
  obtain rfl := Option.some.inj hx1
  obtain rfl := Option.some.inj hx2
  obtain rfl := Option.some.inj hx3
  have := hg (corI n).x.toNat
  have := hg (corI n).y.toNat
  have := hg (corI n).z.toNat
  exact ⟨by omega, by omega, h⟩
theorem RAddresses_ok : SpecOk Tryd.prog E 59 RAddressesPT := spec (.cons RValid_ok (.cons RWeights_ok (.cons ROn_ok .nil))) (by kernel_rfl) fun args bo Q h => by
  obtain ⟨p, rfl, rfl, h⟩ := h
  rw [RAddresses_vc]
  refine ⟨p, rfl, rfl, BIF_n (fun h1 => ?_) (fun h1 => ?_)⟩
  · simp only [addrF, h1] at h
    exact h
  · simp only [addrF, h1, if_true] at h
    refine ⟨p, rfl, rfl, h1, fun _ x => x.1 ≤ 20 ∧ addrK p x.1 = x.2, fun _ x => 20 - x.1, ⟨(0, []), ⟨by omega, rfl⟩, rfl, rfl, trivial⟩, ?_⟩
    rintro ⟨k, l⟩ hI
    dsimp only at hI ⊢
    obtain ⟨hk, he⟩ := hI
    have hlen : l.length ≤ k := by rw [← he]; exact addrK_len p k
    refine BIF_d (fun h2 => ?_) (fun h2 => ?_)
    · have hs := addrK_succ p k
      rw [he] at hs
      have hkf : okF k = true := okF_iff.2 (by omega)
      refine ⟨k, wt p, rfl, rfl, hkf, fun j => wt_in h1 j, ?_⟩
      rw [← onP_sum h1 hkf]
      refine BIF_in (fun h3 => ?_) (fun h3 => ?_)
      · rw [if_pos h3] at hs
        exact ⟨onP k (wt p), rfl, l, rfl, rfl, by show (l.length + 1) * 32 ≤ _; omega, by omega, (k + 1, l ++ [onP k (wt p)]), ⟨⟨by show k + 1 ≤ 20; omega, hs⟩, by show 20 - (k + 1) < 20 - k; omega⟩, rfl, rfl, vwPl_nvs _, trivial⟩
      · rw [if_neg (by simp [h3]), List.append_nil] at hs
        exact ⟨by omega, (k + 1, l), ⟨⟨by show k + 1 ≤ 20; omega, hs⟩, by show 20 - (k + 1) < 20 - k; omega⟩, rfl, rfl, vwPl_nvs _, trivial⟩
    · have : k = 20 := by omega
      subst this
      rw [he] at h
      exact ⟨l, rfl, rfl, h⟩
theorem RNormal_ok : SpecOk Tryd.prog E 44 RNormalPT := spec (.cons RAddresses_ok .nil) (by kernel_rfl) fun args bo Q h => by
  obtain ⟨p, rfl, rfl, h⟩ := h
  rw [RNormal_vc]
  refine ⟨p, rfl, rfl, ?_⟩
  cases h1 : okP p with
  | false =>
    simp only [nrmF, h1] at h
    simp only [addrF, h1]
    exact h
  | true =>
    obtain ⟨q, l, hq⟩ := addrK_pos h1
    simp only [nrmF, h1, if_true, hq, List.head?_cons, Option.getD_some] at h
    simp only [addrF, h1, if_true, hq]
    exact ⟨q :: l, rfl, by simp, fun x hx => by
      simp only [List.getElem?_cons_zero, Option.some.injEq] at hx
      subst hx; exact h⟩
theorem RIsNormal_ok : SpecOk Tryd.prog E 29 RIsNormalPT := spec (.cons RNormal_ok .nil) (by kernel_rfl) fun args bo Q h => by
  obtain ⟨p, rfl, rfl, h⟩ := h
  rw [RIsNormal_vc]
  refine ⟨p, rfl, rfl, BIF_e (fun e => Qc (b1 ?_) h) (fun e => Qc (b1 ?_) h)⟩
  · unfold isNF
    simp only [e, Bool.and_true, Bool.and_eq_true, beq_iff_eq, beq_self_eq_true, Bool.true_and, decide_eq_true_eq]
    exact ⟨fun ⟨a, b, c, d⟩ => Pl.ext4 a b c d, fun hp => by rw [← hp]; exact ⟨rfl, rfl, rfl, rfl⟩⟩
  · unfold isNF
    simp [e]
end Go.Proofs.YtbnglnpgkcjlhaaDoor
