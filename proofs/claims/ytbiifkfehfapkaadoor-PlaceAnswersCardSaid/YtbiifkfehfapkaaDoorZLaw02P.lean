/- The functions of the part 'Law02' do what they are said to do. -/
import Derived.Test.YtbiifkfehfapkaaDoorZLaw02V
import Derived.Test.YtbiifkfehfapkaaDoorZRef02P
set_option linter.unusedVariables false
namespace Go.Proofs.YtbiifkfehfapkaaDoor
open Go Go.Vi
set_option maxRecDepth 100000
set_option maxHeartbeats 1000000
theorem Somewhere_ok : SpecOk Tryd.prog E 10 SomewherePT := spec (.cons N_ok .nil) (by kernel_rfl) fun args bo Q h => by
  obtain ⟨r, rfl, rfl, hr, h⟩ := h
  rw [Somewhere_vc]
  refine ⟨r, 20, rfl, rfl, hr, by omega, by unfold inR; omega, fun f r1 hr1 hf1 hf2 => ⟨r1, 4, rfl, rfl, hr1, by omega, by unfold inR; omega, fun w r2 hr2 hw1 hw2 => ?_⟩⟩
  refine ⟨fun _ x => x.2.ok ∧ x.1.f = f ∧ x.1.c = 0 ∧ 0 ≤ x.1.a ∧ x.1.a ≤ 840 ∧ 0 ≤ x.1.b ∧ x.1.b ≤ 840 - x.1.a, ?_, ?_⟩
  · refine BIF_e (fun _ => ⟨(⟨f, 840, 0, 0⟩, r2), ⟨hr2, rfl, rfl, by dsimp only; omega, by dsimp only; omega, by dsimp only; omega, by dsimp only; omega⟩, rfl, rfl, rfl, trivial⟩) (fun _ => BIF_e (fun _ => ?_) (fun _ => ?_))
    · exact ⟨r2, 841, rfl, rfl, hr2, by omega, by unfold inR; omega, fun a r3 hr3 h1 h2 => ⟨by omega, (⟨f, a, 840 - a, 0⟩, r3), ⟨hr3, rfl, rfl, h1, by dsimp only; omega, by dsimp only; omega, by dsimp only; omega⟩, rfl, rfl, rfl, trivial⟩⟩
    · exact ⟨r2, 841, rfl, rfl, hr2, by omega, by unfold inR; omega, fun a r3 hr3 h1 h2 => ⟨by omega, by omega, r3, 840 - a + 1, rfl, rfl, hr3, by omega, by unfold inR; omega, fun b r4 hr4 h3 h4 => ⟨(⟨f, a, b, 0⟩, r4), ⟨hr4, rfl, rfl, h1, by dsimp only; omega, h3, by dsimp only; omega⟩, rfl, rfl, rfl, trivial⟩⟩⟩
  · rintro ⟨p, r3⟩ ⟨hr3, e1, e2, e3, e4, e5, e6⟩
    dsimp only at *
    refine ⟨by omega, by omega, r3, 3, rfl, rfl, hr3, by omega, by unfold inR; omega, fun k r4 hr4 hk1 hk2 => ?_⟩
    refine ⟨fun _ x => okP x.2 = true ∧ x.1 ≤ 3, fun _ x => x.1, ⟨(k.toNat, ⟨p.f, p.a, p.b, 840 - p.a - p.b⟩), ⟨okP_iff.2 (by dsimp only; omega), by dsimp only; omega⟩, by dsimp only; rw [show ((k.toNat : Nat) : Int) = k by omega], rfl, trivial⟩, ?_⟩
    rintro ⟨i, q⟩ ⟨hq, hi⟩
    dsimp only at *
    refine BIF_d (fun h1 => ?_) (fun h1 => h q r4 hr4 hq)
    have hq := okP_iff.1 hq
    exact ⟨by omega, (i - 1, ⟨q.f, q.c, q.a, q.b⟩), ⟨⟨okP_iff.2 (by dsimp only; omega), by dsimp only; omega⟩, by dsimp only; omega⟩, by dsimp only; rw [show ((i - 1 : Nat) : Int) = (i : Int) - 1 by omega], rfl, trivial⟩
theorem Places_ok : SpecOk Tryd.prog E 26 PlacesPT := spec .nil (by kernel_rfl) fun args bo Q h => by
  obtain ⟨a, b, rfl, rfl, hl, h⟩ := h
  rw [Places_vc]
  simp only [pl_eqb, View.ls_len]
  refine BIF_ne (fun h1 => ?_) (fun h1 => ?_)
  · exact Qc (b1 (by simp only [Bool.false_eq_true, false_iff, decide_eq_true_eq]; intro e; subst e; exact h1 rfl)) h
  · refine ⟨fun _ i => i ≤ a.length ∧ ∀ j, j < i → a[j]? = b[j]?, fun _ i => a.length - i, ⟨0, ⟨Nat.zero_le _, fun j hj => by omega⟩, rfl, trivial⟩, fun i ⟨hi, he⟩ => BIF_d (fun h2 => ?_) (fun h2 => ?_)⟩
    · refine ⟨a, rfl, by omega, fun x hx => ⟨b, rfl, by omega, fun y hy => BIF_n (fun h3 => ?_) (fun h3 => ?_)⟩⟩
      · rw [Int.toNat_natCast] at hx hy
        refine Qc (b1 ?_) h
        simp only [Bool.false_eq_true, false_iff, decide_eq_true_eq]
        intro e
        subst e
        rw [hx] at hy
        obtain rfl := Option.some.inj hy
        simp at h3
      · rw [Int.toNat_natCast] at hx hy
        simp only [decide_eq_true_eq] at h3
        subst h3
        refine ⟨by omega, i + 1, ⟨⟨by omega, fun j hj => ?_⟩, by dsimp only; omega⟩, by simp, trivial⟩
        by_cases e : j = i
        · subst e; rw [hx, hy]
        · exact he j (by omega)
    · refine Qc (b1 ?_) h
      simp only [true_iff, decide_eq_true_eq]
      apply List.ext_getElem?
      intro j
      by_cases hj : j < i
      · exact he j hj
      · rw [List.getElem?_eq_none (by omega), List.getElem?_eq_none (by omega)]
theorem Awake_ok : SpecOk Tryd.prog E 14 AwakePT := closed (n := 60) (by kernel_rfl)
theorem FormatV_ok : SpecOk Tryd.prog E 17 FormatVPT := ⟨Format_ok.1, fun args bo Q h => Format_ok.2 args bo Q (by
  obtain ⟨p, rfl, rfl, hp, h⟩ := h
  exact ⟨p, rfl, rfl, by simp only [fmtF, hp, if_true]; exact h⟩)⟩
theorem PlaceNormal_ok : SpecOk Tryd.prog E 3 PlaceNormalPT := spec (.cons New_ok (.cons Somewhere_ok (.cons Addresses_ok (.cons Normal_ok (.cons Same_ok (.cons Awake_ok .nil)))))) (by kernel_rfl) fun args bo Q h => by
  obtain ⟨l, rfl, rfl, hl, h⟩ := h
  rw [PlaceNormal_vc]
  refine ⟨l, rfl, rfl, hl, fun r hr => ⟨r, rfl, rfl, hr, fun p r1 hr1 hp => ⟨r1, rfl, rfl, hr1, fun q r2 hr2 hq => ⟨p, rfl, rfl, p, rfl, rfl, q, rfl, rfl, ?_⟩⟩⟩⟩
  obtain ⟨n, t, hn⟩ := addrK_pos hp
  obtain ⟨m, t', hm⟩ := addrK_pos hq
  have hF : addrF p = (addrK p 20, 0) := by simp [addrF, hp]
  have hN : nrmF p = (n, 0) := by simp [nrmF, hp, hn]
  have hM : nrmF q = (m, 0) := by simp [nrmF, hq, hm]
  have hlen20 := addrK_len p 20
  have hpos : 0 < (addrK p 20).length := by rw [hn]; simp
  have hzl := addr_len hp
  simp only [pl_eqb, View.ls_len, hF, hN, hM]
  refine BIF_f rfl (BIF_f rfl (BIF_f rfl (BIF_f (by rw [beq_eq_false_iff_ne]; intro e; omega) ⟨_, rfl, ⟨by omega, by omega⟩, fun x hx => BIF_f (by rw [hn] at hx; simp at hx; simp [hx]) ⟨fun _ z => z = (zerosP p : Int), ?_, ?_⟩⟩)))
  · refine BIF_e (fun ha => ?_) (fun ha => ?_) <;> refine BIF_e (fun hb => ?_) (fun hb => ?_) <;> refine BIF_e (fun hc => ?_) (fun hc => ?_) <;>
      (refine ⟨_, ?_, rfl, trivial⟩; simp [zerosP, ha, hb, hc])
  · rintro z rfl
    have hz3 : zerosP p < 3 := by have := (List.getElem?_eq_some_iff.1 hzl).1; simpa using this
    refine ⟨by omega, [1, 2, 5], zerosP p, rfl, by omega, by simpa using hz3, fun x2 hx2 => BIF_f ?_ ?_⟩
    · have : zerosP p = 0 ∨ zerosP p = 1 ∨ zerosP p = 2 := by omega
      rcases this with e | e | e <;> rw [e] at hzl hx2 <;> simp at hzl hx2 <;> simp <;> omega
    · refine ⟨fun _ x => x.1 ≤ (addrK p 20).length ∧ x.2 = ((addrK p 20).take x.1).any (fun y => decide (y = p)), fun _ x => (addrK p 20).length - x.1, ⟨(0, false), ⟨Nat.zero_le _, by simp⟩, rfl, trivial⟩, ?_⟩
      rintro ⟨i, b⟩ ⟨hi, hb⟩
      dsimp only at hi hb ⊢
      refine BIF_d (fun h1 => ⟨_, rfl, by omega, fun y hy => ?_⟩) (fun h1 => ?_)
      · rw [Int.toNat_natCast] at hy
        have hmem := List.mem_of_getElem? hy
        have hy1 : nrmF y = (n, 0) := by rw [nrm_mem hp hmem, hN]
        have hy2 := same_mem hp hmem
        have htk : ((addrK p 20).take (i + 1)).any (fun y => decide (y = p)) = (b || decide (y = p)) := by
          rw [List.take_add_one, hy, hb]; simp
        refine ⟨y, rfl, trivial, ?_⟩
        rw [hy1]
        dsimp only
        have w1 : IntKind.i64.wrap ((i : Int) + 1) = (i : Int) + 1 := wrap64 (by omega) (by omega)
        have w2 : IntKind.i64.wrap ((i : Int) - 1) = (i : Int) - 1 := wrap64 (by omega) (by omega)
        rw [w1, w2]
        have last : BIF b (∃ x' : Nat × Bool, ((x'.1 ≤ (addrK p 20).length ∧ x'.2 = ((addrK p 20).take x'.1).any (fun y => decide (y = p))) ∧ (addrK p 20).length - x'.1 < (addrK p 20).length - i) ∧ [V.int IntKind.i64 ((i : Int) + 1), V.bool true] = [V.int IntKind.i64 (x'.1 : Int), V.bool x'.2] ∧ True)
            (∃ x' : Nat × Bool, ((x'.1 ≤ (addrK p 20).length ∧ x'.2 = ((addrK p 20).take x'.1).any (fun y => decide (y = p))) ∧ (addrK p 20).length - x'.1 < (addrK p 20).length - i) ∧ [V.int IntKind.i64 ((i : Int) + 1), V.bool (decide (y = p))] = [V.int IntKind.i64 (x'.1 : Int), V.bool x'.2] ∧ True) := by
          refine BIF_in (fun hb => ?_) (fun hb => ?_)
          · exact ⟨(i + 1, true), ⟨⟨by dsimp only; omega, by dsimp only; rw [htk, hb]; rfl⟩, by dsimp only; omega⟩, by simp, trivial⟩
          · exact ⟨(i + 1, decide (y = p)), ⟨⟨by dsimp only; omega, by dsimp only; rw [htk, hb]; rfl⟩, by dsimp only; omega⟩, by simp, trivial⟩
        refine BIF_f rfl (BIF_f (by simp) ⟨y, p, rfl, trivial, BIF_f (by simp [hy2]) (BIF_d (fun h2 => ⟨_, rfl, by omega, fun y0 hy0 => BIF_f ?_ last⟩) (fun h2 => last))⟩)
        rw [show ((i : Int) - 1).toNat = i - 1 by omega] at hy0
        have hasc := List.pairwise_iff_getElem.1 (addrK_asc p 20) (i - 1) i (by omega) (by omega) (by omega)
        obtain ⟨q1, q2⟩ := List.getElem?_eq_some_iff.1 hy
        obtain ⟨q3, q4⟩ := List.getElem?_eq_some_iff.1 hy0
        rw [q2, q4] at hasc
        simp only [decide_eq_false_iff_not]
        omega
      · have hiN : i = (addrK p 20).length := by omega
        refine BIF_t ?_ ⟨p, q, rfl, trivial, BIF_t ?_ ⟨trivial, trivial, h⟩⟩
        · rw [hb, hiN, List.take_length, List.any_eq_true]
          exact ⟨p, self_mem hp, by simp⟩
        · rw [same_nrm hp hq, hN, hM]
          simp [Bool.beq_eq_decide_eq]
theorem PlaceTexts_ok : SpecOk Tryd.prog E 5 PlaceTextsPT := spec (.cons New_ok (.cons Somewhere_ok (.cons FormatV_ok (.cons Parse_ok (.cons RParse_ok (.cons Mod_ok (.cons Awake_ok .nil))))))) (by kernel_rfl) fun args bo Q h => by
  obtain ⟨s, l, a, b, rfl, rfl, hl, ha, h⟩ := h
  rw [PlaceTexts_vc]
  simp only [pl_eqb]
  refine BIF_d (fun _ => ⟨trivial, trivial, h⟩) (fun _ => ⟨l, rfl, trivial, hl, fun r hr => ⟨r, trivial, rfl, hr, fun p r1 hr1 hp => ⟨p, rfl, trivial, hp, fmtS p, rfl, trivial, ?_⟩⟩⟩)
  rw [prs_fmt hp]
  have m1 := Int.emod_nonneg a (show (8 : Int) ≠ 0 by decide)
  have m2 := Int.emod_lt_of_pos a (show (0 : Int) < 8 by decide)
  have hif : (if (8 : Int) < 1 then 0 else a % 8) = a % 8 := by simp
  refine BIF_f rfl (BIF_f (by simp) ⟨a, 8, rfl, trivial, ha, by unfold inR; omega, ?_⟩)
  rw [hif]
  refine ⟨by omega, (fmtS p).data.toList, (a % 8).toNat, rfl, by omega, by show _ < 8; omega, fun x1 hx1 => ⟨by omega, by omega, ?_⟩⟩
  refine ⟨fun _ i => i ≤ 4, fun _ i => 4 - i, ⟨0, by decide, rfl, trivial⟩, fun i hi => BIF_d (fun h1 => ⟨by omega, [_, _, _, _], i, rfl, by omega, by show i < 4; omega, fun x hx => ⟨x, rfl, trivial, x, rfl, trivial, BIF_f (by simp) (BIF_f (by simp) ⟨by omega, i + 1, ⟨by omega, by dsimp only; omega⟩, by simp, trivial⟩)⟩⟩) (fun _ => ⟨trivial, trivial, h⟩)⟩
theorem PlaceAcross_ok : SpecOk Tryd.prog E 7 PlaceAcrossPT := spec (.cons New_ok (.cons N_ok (.cons Across_ok (.cons Addresses_ok (.cons Corners_ok (.cons Awake_ok .nil)))))) (by kernel_rfl) fun args bo Q h => by
  obtain ⟨l, rfl, rfl, hl, h⟩ := h
  rw [PlaceAcross_vc]
  refine ⟨l, rfl, rfl, hl, fun r hr => ⟨r, 20, rfl, rfl, hr, by omega, by unfold inR; omega, fun v r1 hr1 hv1 hv2 => ⟨r1, 3, rfl, rfl, hr1, by omega, by unfold inR; omega, fun k r2 hr2 hk1 hk2 => ⟨r2, 841, rfl, rfl, hr2, by omega, by unfold inR; omega, fun w r3 hr3 hw1 hw2 => ?_⟩⟩⟩⟩
  have t1 : (k + 1).tmod 3 = (k + 1) % 3 := Int.tmod_eq_emod_of_nonneg (by omega)
  have t2 : (k + 2).tmod 3 = (k + 2) % 3 := Int.tmod_eq_emod_of_nonneg (by omega)
  have hv : okF v = true := okF_iff.2 ⟨hv1, hv2⟩
  have hk : 0 ≤ k ∧ k ≤ 2 := ⟨hk1, by omega⟩
  have hw : 0 ≤ w ∧ w ≤ 840 := ⟨hw1, by omega⟩
  obtain ⟨f, hf20, hfA, hfB, hfe⟩ := acr_out hv hk
  have hok := ed_ok hv hk hw
  obtain ⟨xg, hxg, hxf⟩ := ed_across hv hk hw hf20 hfA
  have hF : addrF (edP v k w) = (addrK (edP v k w) 20, 0) := by simp [addrF, hok]
  have hC : cornF v = (corI v, 0) := by simp [cornF, hv]
  have hG : cornF (f : Int) = (corI f, 0) := by simp [cornF, okF_iff.2 (show 0 ≤ (f : Int) ∧ (f : Int) < 20 by omega)]
  have hlen20 := addrK_len (edP v k w) 20
  refine ⟨by omega, by omega, by omega, by omega, by omega, by omega, by omega, v, k, rfl, rfl, edP v k w, rfl, rfl, v, rfl, rfl, ?_⟩
  rw [hfe, hF, hC]
  dsimp only
  refine BIF_f rfl (BIF_f rfl (BIF_f rfl ⟨fun _ x => x.1 ≤ (addrK (edP v k w) 20).length ∧ x.2 = ((addrK (edP v k w) 20).take x.1).any (fun y => y.f == (f : Int)), fun _ x => (addrK (edP v k w) 20).length - x.1, ⟨(0, false), ⟨Nat.zero_le _, by simp⟩, rfl, trivial⟩, ?_⟩))
  rintro ⟨i, b⟩ ⟨hi, hb⟩
  dsimp only at hi hb ⊢
  refine BIF_d (fun h1 => ⟨_, rfl, ?_, fun y hy => ?_⟩) (fun h1 => ?_)
  · rw [View.ls_len] at h1; omega
  · rw [Int.toNat_natCast] at hy
    have hmem := List.mem_of_getElem? hy
    have hlt := (List.getElem?_eq_some_iff.1 hy).1
    have htk : ((addrK (edP v k w) 20).take (i + 1)).any (fun y => y.f == (f : Int)) = (b || y.f == (f : Int)) := by
      rw [List.take_add_one, hy, hb]; simp
    have nxt : ∀ b' : Bool, b' = (b || y.f == (f : Int)) → (-9223372036854775808 ≤ (i : Int) + 1 ∧ (i : Int) + 1 ≤ 9223372036854775807) ∧ ∃ x' : Nat × Bool, ((x'.1 ≤ (addrK (edP v k w) 20).length ∧ x'.2 = ((addrK (edP v k w) 20).take x'.1).any (fun y => y.f == (f : Int))) ∧ (addrK (edP v k w) 20).length - x'.1 < (addrK (edP v k w) 20).length - i) ∧ [V.int IntKind.i64 ((i : Int) + 1), V.bool b'] = [V.int IntKind.i64 (x'.1 : Int), V.bool x'.2] ∧ True := by
      intro b' e
      exact ⟨by omega, (i + 1, b'), ⟨⟨by dsimp only; omega, by dsimp only; rw [htk, e]⟩, by dsimp only; omega⟩, by simp, trivial⟩
    refine BIF_ne (fun h2 => nxt _ (by simp [h2])) (fun h2 => ⟨f, rfl, rfl, ?_⟩)
    rw [hG]
    dsimp only
    refine ⟨fun _ x => x.1 ≤ 3 ∧ x.2 = true, fun _ x => 3 - x.1, ⟨(0, true), ⟨by decide, rfl⟩, rfl, trivial⟩, ?_⟩
    rintro ⟨m, c⟩ ⟨hm, rfl⟩
    dsimp only at hm ⊢
    have hyo := mem_onP hmem
    rw [h2] at hyo
    refine BIF_d (fun h3 => ⟨by omega, c3 (corI f), m, rfl, by omega, by show m < 3; omega, fun u hu => ⟨by omega, by omega, c3 (corI v), ((k + 1) % 3).toNat, rfl, by omega, by show _ < 3; omega, fun a ha => ?_⟩⟩) (fun h3 => nxt _ (by simp [h2]))
    have hu0 := (c3_in f u (List.mem_of_getElem? hu)).1
    have hA : edA v k = a := by unfold edA; rw [List.getD_eq_getElem?_getD, ha]; rfl
    have hW := ed_wt (w := w) hv hk hu0
    have got : ∀ z : Int, [y.a, y.b, y.c][m]? = some z → z = wt (edP v k w) u.toNat := by
      intro z hz
      rw [hyo] at hz
      exact onP_at hu hz
    have nx3 : ∀ c' : Bool, c' = true → (-9223372036854775808 ≤ (m : Int) + 1 ∧ (m : Int) + 1 ≤ 9223372036854775807) ∧ ∃ x' : Nat × Bool, ((x'.1 ≤ 3 ∧ x'.2 = true) ∧ 3 - x'.1 < 3 - m) ∧ [V.int IntKind.i64 ((m : Int) + 1), V.bool c'] = [V.int IntKind.i64 (x'.1 : Int), V.bool x'.2] ∧ True := by
      intro c' e
      exact ⟨by omega, (m + 1, c'), ⟨⟨by dsimp only; omega, e⟩, by dsimp only; omega⟩, by simp, trivial⟩
    refine BIF_e (fun h4 => BIF_t rfl ⟨by omega, [y.a, y.b, y.c], m, rfl, by omega, by show m < 3; omega, fun z hz => nx3 _ ?_⟩) (fun h4 => ⟨by omega, by omega, c3 (corI v), ((k + 2) % 3).toNat, rfl, by omega, by show _ < 3; omega, fun b2 hb2 => ?_⟩)
    · rw [got z hz, hW, if_pos (by rw [hA]; exact h4)]; simp
    · have hB : edB v k = b2 := by unfold edB; rw [List.getD_eq_getElem?_getD, hb2]; rfl
      refine BIF_e (fun h5 => BIF_t rfl ⟨by omega, [y.a, y.b, y.c], m, rfl, by omega, by show m < 3; omega, fun z hz => ⟨by omega, nx3 _ ?_⟩⟩) (fun h5 => BIF_t rfl ⟨by omega, [y.a, y.b, y.c], m, rfl, by omega, by show m < 3; omega, fun z hz => nx3 _ ?_⟩)
      · rw [got z hz, hW, if_neg (by rw [hA]; exact h4), if_pos (by rw [hB]; exact h5)]; simp
      · rw [got z hz, hW, if_neg (by rw [hA]; exact h4), if_neg (by rw [hB]; exact h5)]; simp
  · rw [View.ls_len] at h1
    have hiN : i = (addrK (edP v k w) 20).length := by omega
    have hbt : b = true := by
      rw [hb, hiN, List.take_length, List.any_eq_true]
      exact ⟨xg, hxg, by simp [hxf]⟩
    refine BIF_t hbt (BIF_e (fun _ => ⟨rfl, rfl, h⟩) (fun n0 => BIF_e (fun _ => ⟨rfl, rfl, h⟩) (fun n1 => BIF_t ?_ ⟨rfl, rfl, h⟩)))
    have hz := addr_len hok
    rw [ed_zeros hk n0 n1] at hz
    rw [View.ls_len, ← Option.some.inj hz]
    rfl
theorem PlaceAnswers_ok : SpecOk Tryd.prog E 8 PlaceAnswersPT := spec (.cons New_ok (.cons Somewhere_ok (.cons N_ok (.cons Range_ok (.cons Normal_ok (.cons RNormal_ok (.cons Addresses_ok (.cons RAddresses_ok (.cons Format_ok (.cons RFormat_ok (.cons Places_ok (.cons Valid_ok (.cons RValid_ok (.cons Same_ok (.cons RSame_ok (.cons Corners_ok (.cons RCorners_ok (.cons Across_ok (.cons RAcross_ok (.cons Awake_ok .nil)))))))))))))))))))) (by kernel_rfl) fun args bo Q h => by
  obtain ⟨p, q, l, f, c, rfl, rfl, hl, h⟩ := h
  rw [PlaceAnswers_vc]
  refine ⟨l, rfl, rfl, hl, fun r hr => ⟨r, rfl, rfl, hr, fun x r1 hr1 hx => ⟨r1, rfl, rfl, hr1, fun y r2 hr2 hy => ⟨r2, -1, 21, rfl, rfl, hr2, by omega, by omega, by omega, fun v r3 hr3 _ _ => ⟨r3, -1, 841, rfl, rfl, hr3, by omega, by omega, by omega, fun v1 r4 hr4 _ _ => ⟨r4, 10, rfl, rfl, hr4, by omega, by unfold inR; omega, fun v2 r5 hr5 _ _ => ⟨r5, 840, rfl, rfl, hr5, by omega, by unfold inR; omega, fun v3 r6 hr6 _ _ => ?_⟩⟩⟩⟩⟩⟩⟩
  refine ⟨fun _ z => z.1 ≤ 5, fun _ z => 5 - z.1, ⟨(0, r6), by dsimp only; omega, rfl, trivial⟩, ?_⟩
  rintro ⟨i, rr⟩ hi
  dsimp only at hi ⊢
  refine BIF_d (fun h1 => ⟨by omega, [p, q, x, y, ⟨v, v1, v2, v3⟩], i, rfl, by omega, by show i < 5; omega, fun z hz => ⟨z, rfl, rfl, z, rfl, rfl, z, rfl, rfl, z, rfl, rfl, z, rfl, rfl, z, rfl, rfl, BIF_f (by simp) (BIF_f (by simp) (BIF_f (by simp) (BIF_f (by simp) (BIF_f (by simp) ⟨_, _, rfl, rfl, addrF_len z, BIF_f (by simp) ⟨z, rfl, rfl, z, rfl, rfl, BIF_f (by simp) ⟨z, x, rfl, rfl, z, x, rfl, rfl, BIF_f (by simp) ⟨p, z, rfl, rfl, p, z, rfl, rfl, BIF_f (by simp) ⟨by omega, (i + 1, rr), ⟨by dsimp only; omega, by dsimp only; omega⟩, by simp, trivial⟩⟩⟩⟩⟩))))⟩⟩) (fun h1 => ?_)
  refine ⟨r6, 20, rfl, rfl, hr6, by omega, by unfold inR; omega, fun v4 r7 hr7 _ _ => ⟨r7, 3, rfl, rfl, hr7, by omega, by unfold inR; omega, fun v5 r8 hr8 _ _ => ⟨r8, 20, rfl, rfl, hr8, by omega, by unfold inR; omega, fun v6 r9 hr9 _ _ => ⟨r9, 3, rfl, rfl, hr9, by omega, by unfold inR; omega, fun v7 r10 hr10 _ _ => ?_⟩⟩⟩⟩
  refine ⟨fun _ i => i ≤ 4, fun _ i => 4 - i, ⟨0, by decide, rfl, trivial⟩, fun j hj => BIF_d (fun h2 => ⟨by omega, [⟨f, c⟩, ⟨v4, v5⟩, ⟨v6, c⟩, ⟨f, v7⟩], j, rfl, by omega, by show j < 4; omega, fun z hz => ⟨z.x, rfl, rfl, z.x, rfl, rfl, z.x, z.y, rfl, rfl, z.x, z.y, rfl, rfl, BIF_f (by simp) (BIF_f (by simp) (BIF_f (by simp) (BIF_f (by simp) ⟨by omega, j + 1, ⟨by omega, by dsimp only; omega⟩, by simp, trivial⟩)))⟩⟩) (fun _ => ⟨rfl, rfl, h⟩)⟩
end Go.Proofs.YtbiifkfehfapkaaDoor
