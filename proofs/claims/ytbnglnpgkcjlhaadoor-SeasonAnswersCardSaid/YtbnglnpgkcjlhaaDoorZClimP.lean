/- The functions of the part 'Clim' do what they are said to do. -/
import Derived.Test.YtbnglnpgkcjlhaaDoorZClimV
import Derived.Test.YtbnglnpgkcjlhaaDoorZKeepP
import Derived.Test.YtbnglnpgkcjlhaaDoorZElemP
import Derived.Test.YtbnglnpgkcjlhaaDoorZPlaceP
import Derived.Test.YtbnglnpgkcjlhaaDoorZRef02P
import Derived.Test.YtbnglnpgkcjlhaaDoorZClockP
set_option linter.unusedVariables false
namespace Go.Proofs.YtbnglnpgkcjlhaaDoor
open Go Go.Vi
set_option maxRecDepth 100000
set_option maxHeartbeats 1000000
theorem IsNaN_ok : SpecOk Tryd.prog E 82 IsNaNPT := spec .nil (by kernel_rfl) fun args bo Q h => by
  obtain ⟨x, rfl, rfl, h⟩ := h
  rw [IsNaN_vc, bne_self_eq_false]
  exact h
theorem CmpI_ok : SpecOk Tryd.prog E 77 CmpIPT := spec (.cons IsNaN_ok .nil) (by kernel_rfl) fun args bo Q h => by
  obtain ⟨x, y, rfl, rfl, h⟩ := h
  rw [CmpI_vc]
  unfold cmpI at h
  refine ⟨x, rfl, rfl, y, rfl, rfl, BIF_d (fun e => ?_) (fun e => BIF_d (fun g => ?_) (fun g => ?_))⟩
  · rw [if_pos e] at h; exact h
  · rw [if_neg e, if_pos g] at h; exact h
  · rw [if_neg e, if_neg g] at h; exact h
theorem CmpOr_ok : SpecOk Tryd.prog E 76 CmpOrPT := spec .nil (by kernel_rfl) fun args bo Q h => by
  obtain ⟨l, rfl, rfl, hl, h⟩ := h
  rw [CmpOr_vc]
  simp only [View.ls_len]
  refine ⟨fun _ i => ∀ (j : Nat) (y : Int), j < i → l[j]? = some y → y = 0, fun _ i => l.length - i, ⟨0, fun j y hj => by omega, rfl, trivial⟩, fun i hno => BIF_d (fun e => ⟨l, rfl, by omega, fun x hx => ?_⟩) (fun e => ?_)⟩
  · rw [Int.toNat_natCast] at hx
    refine BIF_ne (fun g => ?_) (fun g => ⟨by omega, i + 1, ⟨fun j y hj hy => ?_, by dsimp only; omega⟩, by simp, trivial⟩)
    · rw [orF_at hx g hno] at h; exact h
    · by_cases e : j = i
      · subst e; rw [hx] at hy; exact (Option.some.inj hy).symm.trans g
      · exact hno j y (by omega) hy
  · rw [orF_no fun j y hy => hno j y (by have := (List.getElem?_eq_some_iff.1 hy).1; omega) hy] at h
    exact h
theorem CmpN_ok : SpecOk Tryd.prog E 56 CmpNPT := spec (.cons CmpI_ok (.cons CmpOr_ok .nil)) (by kernel_rfl) fun args bo Q h => by
  obtain ⟨a, b, rfl, rfl, h⟩ := h
  rw [CmpN_vc]
  exact ⟨_, _, rfl, rfl, _, _, rfl, rfl, _, _, rfl, rfl, [_, _, _], rfl, rfl, by show (3 : Nat) ≤ _; omega, h⟩
theorem Exists_ok : SpecOk Tryd.prog E 63 ExistsPT := spec (.cons Describe_ok .nil) (by kernel_rfl) fun args bo Q h => by
  obtain ⟨c, rfl, rfl, h⟩ := h
  rw [Exists_vc]
  exact ⟨c, rfl, rfl, fun _ _ => h⟩
theorem ValidN_ok : SpecOk Tryd.prog E 65 ValidNPT := spec .nil (by kernel_rfl) fun args bo Q h => by
  obtain ⟨n, rfl, rfl, h⟩ := h
  rw [ValidN_vc]
  unfold valN at h
  refine BIF_d (fun h1 => BIF_d (fun h2 => BIF_d (fun h3 => BIF_d (fun h4 => BIF_d (fun h5 => BIF_d (fun h6 => BIF_d (fun h7 => ?_) (fun h7 => ?_)) (fun h6 => ?_)) (fun h5 => ?_)) (fun h4 => ?_)) (fun h3 => ?_)) (fun h2 => ?_)) (fun h1 => ?_)
  · rw [decide_eq_true (show 0 ≤ n.fa by omega), decide_eq_true h2, decide_eq_true (show 1 ≤ n.mo by omega), decide_eq_true h4, decide_eq_true (show -10000 ≤ n.me by omega), decide_eq_true h6, decide_eq_true (show 0 ≤ n.sp by omega)] at h; exact h
  · rw [decide_eq_false (show ¬ 0 ≤ n.sp by omega)] at h; simpa using h
  · rw [decide_eq_false h6] at h; simpa using h
  · rw [decide_eq_false (show ¬ -10000 ≤ n.me by omega)] at h; simpa using h
  · rw [decide_eq_false h4] at h; simpa using h
  · rw [decide_eq_false (show ¬ 1 ≤ n.mo by omega)] at h; simpa using h
  · rw [decide_eq_false h2] at h; simpa using h
  · rw [decide_eq_false (show ¬ 0 ≤ n.fa by omega)] at h; simpa using h
theorem CV1_ok : SpecOk Tryd.prog E 62 CV1PT := spec (.cons Exists_ok .nil) (by kernel_rfl) fun args bo Q h => by
  obtain ⟨n, rfl, rfl, h⟩ := h
  rw [CV1_vc]
  exact ⟨_, rfl, rfl, h⟩
theorem CV2_ok : SpecOk Tryd.prog E 64 CV2PT := spec (.cons ValidN_ok .nil) (by kernel_rfl) fun args bo Q h => by
  obtain ⟨n, rfl, rfl, h⟩ := h
  rw [CV2_vc]
  exact ⟨n, rfl, rfl, h⟩
theorem IdxN_ok : SpecOk Tryd.prog E 80 IdxNPT := spec2 (.cons CV1_ok (.cons CV2_ok .nil)) (by kernel_rfl) fun args bo Q h => by
  obtain ⟨l, f, hf, rfl, rfl, hl, h⟩ := h
  rcases hf with rfl | rfl
  · refine ⟨_, _, _, (IdxN_vc l Q).mpr ?_⟩
    simp only [View.ls_len]
    refine ⟨fun _ i => ∀ (j : Nat) (y : Nrm), j < i → l[j]? = some y → pN 62 y = false, fun _ i => l.length - i, ⟨0, fun j y hj => by omega, rfl, trivial⟩, fun i hno => BIF_d (fun e => ⟨l, rfl, by omega, fun x hx => ⟨x, rfl, trivial, ?_⟩⟩) (fun e => ?_)⟩
    · rw [Int.toNat_natCast] at hx
      refine BIF_in (fun g => ?_) (fun g => ⟨by omega, i + 1, ⟨fun j y hj hy => ?_, by dsimp only; omega⟩, by simp, trivial⟩)
      · rw [idxG_at hx g hno] at h; exact h
      · by_cases e : j = i
        · subst e; rw [hx] at hy; obtain rfl := Option.some.inj hy; exact g
        · exact hno j y (by omega) hy
    · rw [idxG_no fun j y hy => hno j y (by have := (List.getElem?_eq_some_iff.1 hy).1; omega) hy] at h
      exact h
  · refine ⟨_, _, _, (IdxN_vc2 l Q).mpr ?_⟩
    simp only [View.ls_len]
    refine ⟨fun _ i => ∀ (j : Nat) (y : Nrm), j < i → l[j]? = some y → pN 64 y = false, fun _ i => l.length - i, ⟨0, fun j y hj => by omega, rfl, trivial⟩, fun i hno => BIF_d (fun e => ⟨l, rfl, by omega, fun x hx => ⟨x, rfl, trivial, ?_⟩⟩) (fun e => ?_)⟩
    · rw [Int.toNat_natCast] at hx
      refine BIF_in (fun g => ?_) (fun g => ⟨by omega, i + 1, ⟨fun j y hj hy => ?_, by dsimp only; omega⟩, by simp, trivial⟩)
      · rw [idxG_at hx g hno] at h; exact h
      · by_cases e : j = i
        · subst e; rw [hx] at hy; obtain rfl := Option.some.inj hy; exact g
        · exact hno j y (by omega) hy
    · rw [idxG_no fun j y hy => hno j y (by have := (List.getElem?_eq_some_iff.1 hy).1; omega) hy] at h
      exact h
theorem HasN_ok : SpecOk Tryd.prog E 61 HasNPT := spec2 (.cons IdxN_ok .nil) (by kernel_rfl) fun args bo Q h => by
  obtain ⟨l, f, hf, rfl, rfl, hl, h⟩ := h
  rw [← idxG_any] at h
  rcases hf with rfl | rfl
  · exact ⟨_, _, _, (HasN_vc l Q).mpr ⟨l, _, .inl rfl, rfl, rfl, hl, h⟩⟩
  · exact ⟨_, _, _, (HasN_vc2 l Q).mpr ⟨l, _, .inr rfl, rfl, rfl, hl, h⟩⟩
theorem CValidate_ok : SpecOk Tryd.prog E 50 CValidatePT := spec (.cons HasN_ok (.cons CmpN_ok .nil)) (by kernel_rfl) fun args bo Q h => by
  obtain ⟨l, rfl, rfl, hl, h⟩ := h
  rw [CValidate_vc]
  simp only [View.ls_len]
  unfold cvF at h
  refine BIF_d (fun e => ?_) (fun e => ?_)
  · rw [if_pos (by omega)] at h; exact h
  rw [if_neg (by omega)] at h
  refine ⟨l, _, .inl rfl, rfl, trivial, hl, BIF_in (fun g1 => ?_) (fun g1 => ?_)⟩
  · rw [show (l.any fun n => !exI n.el) = true from g1, if_pos rfl] at h; exact h
  rw [show (l.any fun n => !exI n.el) = false from g1, if_neg (by simp)] at h
  refine ⟨l, _, .inr rfl, rfl, trivial, hl, BIF_in (fun g2 => ?_) (fun g2 => ?_)⟩
  · rw [show (l.any fun n => !valN n) = true from g2, if_pos rfl] at h; exact h
  rw [show (l.any fun n => !valN n) = false from g2, if_neg (by simp)] at h
  refine ⟨fun _ i => 1 ≤ i ∧ ∀ (j : Nat) (a b : Nrm), j + 1 < i → l[j]? = some a → l[j + 1]? = some b → decide (ltN a b) = true, fun _ i => l.length - i, ⟨1, ⟨Nat.le_refl _, fun j a b hj => by omega⟩, rfl, trivial⟩, fun i ⟨hi, hno⟩ => BIF_d (fun h3 => ?_) (fun h3 => ?_)⟩
  · refine ⟨by omega, l, rfl, by omega, fun a ha => ⟨l, rfl, by omega, fun b hb => ⟨a, b, rfl, trivial, BIF_d (fun h4 => ?_) (fun h4 => ⟨by omega, i + 1, ⟨⟨by omega, fun j c d hj hc hd => ?_⟩, by dsimp only; omega⟩, by simp, trivial⟩)⟩⟩⟩
    · rw [if_neg] at h
      · exact h
      · intro hh
        have := (ascG_iff l).1 hh (i - 1) a b (by rw [← ha]; congr 1; omega) (by rw [← hb]; congr 1; omega)
        rw [decide_eq_true_eq, ← cmpN_lt] at this
        omega
    · by_cases e : j + 1 = i
      · have h5 : l[j]? = some a := by rw [← ha]; congr 1; omega
        have h6 : l[j + 1]? = some b := by rw [← hb, e, Int.toNat_natCast]
        rw [hc] at h5; rw [hd] at h6
        obtain rfl := Option.some.inj h5
        obtain rfl := Option.some.inj h6
        rw [decide_eq_true_eq, ← cmpN_lt]
        omega
      · exact hno j c d (by omega) hc hd
  · rw [if_pos] at h
    · exact h
    · exact (ascG_iff l).2 fun j a b ha hb => hno j a b (by have := (List.getElem?_eq_some_iff.1 hb).1; omega) ha hb
theorem BinN_ok : SpecOk Tryd.prog E 55 BinNPT := spec (.cons CmpN_ok .nil) (by kernel_rfl) fun args bo Q h => by
  obtain ⟨l, t, rfl, rfl, hl, hc, h⟩ := h
  rw [BinN_vc]
  simp only [View.ls_len]
  refine ⟨fun _ x => x.1 ≤ x.2 ∧ x.2 ≤ l.length ∧ (∀ (j : Nat) (y : Nrm), j < x.1 → l[j]? = some y → cmpN y t < 0) ∧ (∀ (j : Nat) (y : Nrm), x.2 ≤ j → l[j]? = some y → 0 ≤ cmpN y t), fun _ x => x.2 - x.1, ⟨(0, l.length), ⟨by simp, by simp, fun j y hj => by simp at hj, fun j y hj hy => by have := (List.getElem?_eq_some_iff.1 hy).1; dsimp only at hj; omega⟩, rfl, trivial⟩, ?_⟩
  rintro ⟨i, j⟩ hI
  dsimp only at hI ⊢
  obtain ⟨h1, h2, h3, h4⟩ := hI
  refine BIF_d (fun e => ?_) (fun e => ?_)
  · rw [half (by omega)]
    refine ⟨by omega, l, rfl, by omega, fun x hx => ⟨x, t, rfl, trivial, BIF_d (fun g => ⟨by omega, ((i + j) / 2 + 1, j), ⟨⟨by dsimp only; omega, h2, fun k y hk hy => ?_, h4⟩, by dsimp only; omega⟩, by simp, trivial⟩) (fun g => ⟨(i, (i + j) / 2), ⟨⟨by dsimp only; omega, by dsimp only; omega, h3, fun k y hk hy => ?_⟩, by dsimp only; omega⟩, rfl, trivial⟩)⟩⟩
    · rw [Int.toNat_natCast] at hx
      exact hc.lt (show k ≤ (i + j) / 2 by dsimp only at hk; omega) hy hx g
    · rw [Int.toNat_natCast] at hx
      exact hc _ k x y hk hx hy (by show 0 ≤ cmpN x t; omega)
  · have e : i = j := by omega
    subst e
    have h := h i ⟨h2, h3, h4⟩
    refine BIF_d (fun g => ⟨l, rfl, by omega, fun x hx => ⟨x, t, rfl, trivial, ?_⟩⟩) (fun g => ?_)
    · rw [Int.toNat_natCast] at hx
      unfold hitG at h
      rw [hx] at h
      exact h
    · unfold hitG at h
      rw [List.getElem?_eq_none (by omega)] at h
      exact h
theorem CLookup_ok : SpecOk Tryd.prog E 40 CLookupPT := spec (.cons CValidate_ok (.cons Normal_ok (.cons CDate_ok (.cons BinN_ok .nil)))) (by kernel_rfl) fun args bo Q h => by
  obtain ⟨l, c, p, t, rfl, rfl, hl, h⟩ := h
  rw [CLookup_vc]
  unfold lookF at h
  refine ⟨l, rfl, rfl, hl, BIF_ne (fun e => ?_) (fun e => ⟨p, rfl, rfl, t, rfl, rfl, fun y d hh mi => ?_⟩)⟩
  · rw [if_pos e] at h; exact h
  rw [if_neg (by omega)] at h
  refine BIF_ne (fun g => ?_) (fun g => BIF_ne (fun g2 => ?_) (fun g2 => ⟨l, keyN c (nrmF p).1.f (monF t), rfl, rfl, hl, cutsN (cvF_0.1 e).2.2.2 _, fun i hi => ?_⟩))
  · rw [if_pos (.inl g)] at h; exact h
  · rw [if_pos (.inr g2)] at h; exact h
  · rw [if_neg (by omega)] at h
    rcases hit_find (cvF_0.1 e).2.2.2 hi with ⟨k1, k2⟩ | ⟨k1, k2, k3⟩
    · rw [k2] at h
      exact BIF_n (fun _ => h) (fun g3 => by rw [g3] at k1; cases k1)
    · exact BIF_n (fun g3 => by rw [g3] at k1; cases k1) (fun _ => ⟨l, rfl, by omega, fun x hx => by
        rw [k3 x (by rw [Int.toNat_natCast] at hx; exact hx)] at h
        exact h⟩)
theorem RLess_ok : SpecOk Tryd.prog E 46 RLessPT := spec .nil (by kernel_rfl) fun args bo Q h => by
  obtain ⟨a, b, rfl, rfl, h⟩ := h
  rw [RLess_vc]
  refine BIF_ne (fun e => ?_) (fun e => BIF_ne (fun g => ?_) (fun g => ?_))
  · exact Qc (b1 (by simp only [decide_eq_true_eq]; unfold ltN; omega)) h
  · exact Qc (b1 (by simp only [decide_eq_true_eq]; unfold ltN; omega)) h
  · exact Qc (b1 (by simp only [decide_eq_true_eq]; unfold ltN; omega)) h
theorem RCValidate_ok : SpecOk Tryd.prog E 25 RCValidatePT := spec (.cons RDescribe_ok (.cons RLess_ok .nil)) (by kernel_rfl) fun args bo Q h => by
  obtain ⟨l, rfl, rfl, hl, h⟩ := h
  rw [RCValidate_vc]
  simp only [View.ls_len]
  unfold cvF at h
  refine BIF_d (fun e => ?_) (fun e => ?_)
  · rw [if_pos (by omega)] at h; exact h
  rw [if_neg (by omega)] at h
  refine ⟨fun _ i => ∀ (j : Nat) (n : Nrm), j < i → l[j]? = some n → (!exI n.el) = false, fun _ i => l.length - i, ⟨0, fun j r hj => by omega, rfl, trivial⟩, fun i hno => BIF_d (fun h1 => ⟨l, rfl, by omega, fun n hn => ⟨n.el, rfl, trivial, fun s d => BIF_ne (fun h2 => ?_) (fun h2 => ⟨by omega, i + 1, ⟨fun j y hj hy => ?_, by dsimp only; omega⟩, by simp, trivial⟩)⟩⟩) (fun h1 => ?_)⟩
  · rw [Int.toNat_natCast] at hn
    rw [any_at hn (by unfold exI; simp [h2]), if_pos rfl] at h
    exact h
  · rw [Int.toNat_natCast] at hn
    by_cases e : j = i
    · subst e; rw [hn] at hy; obtain rfl := Option.some.inj hy; unfold exI; simp [h2]
    · exact hno j y (by omega) hy
  rw [any_no fun j n hn => hno j n (by have := (List.getElem?_eq_some_iff.1 hn).1; omega) hn, if_neg (by simp)] at h
  refine ⟨fun _ i => ∀ (j : Nat) (n : Nrm), j < i → l[j]? = some n → (!valN n) = false, fun _ i => l.length - i, ⟨0, fun j r hj => by omega, rfl, trivial⟩, fun i hno2 => BIF_d (fun h2 => ⟨l, rfl, by omega, fun n hn => ?_⟩) (fun h2 => ?_)⟩
  · rw [Int.toNat_natCast] at hn
    have bad : ¬ ValN n → Q (.int .i64 1) [] [] := by
      intro hb
      rw [any_at hn (by rw [Bool.not_eq_true']; exact Bool.eq_false_iff.2 fun hv => hb (valN_iff.1 hv)), if_pos rfl] at h
      exact h
    refine BIF_d (fun k => bad fun v => by have := v.f1; omega) fun k1 => BIF_d (fun k => bad fun v => by have := v.f2; omega) fun k2 => BIF_d (fun k => bad fun v => by have := v.m1; omega) fun k3 => BIF_d (fun k => bad fun v => by have := v.m2; omega) fun k4 => BIF_d (fun k => bad fun v => by have := v.e1; omega) fun k5 => BIF_d (fun k => bad fun v => by have := v.e2; omega) fun k6 => BIF_d (fun k => bad fun v => by have := v.s1; omega) fun k7 => BIF_d (fun k => bad fun v => by have := v.s2; omega) fun k8 => ⟨by omega, i + 1, ⟨fun j y hj hy => ?_, by dsimp only; omega⟩, by simp, trivial⟩
    by_cases e : j = i
    · subst e; rw [hn] at hy; obtain rfl := Option.some.inj hy
      rw [valN_iff.2 ⟨by omega, by omega, by omega, by omega, by omega, by omega, by omega, by omega⟩]
      rfl
    · exact hno2 j y (by omega) hy
  rw [any_no fun j n hn => hno2 j n (by have := (List.getElem?_eq_some_iff.1 hn).1; omega) hn, if_neg (by simp)] at h
  refine ⟨fun _ i => 1 ≤ i ∧ ∀ (j : Nat) (a b : Nrm), j + 1 < i → l[j]? = some a → l[j + 1]? = some b → decide (ltN a b) = true, fun _ i => l.length - i, ⟨1, ⟨Nat.le_refl _, fun j a b hj => by omega⟩, rfl, trivial⟩, fun i ⟨hi, hno⟩ => BIF_d (fun h3 => ?_) (fun h3 => ?_)⟩
  · refine ⟨by omega, l, rfl, by omega, fun a ha => ⟨l, rfl, by omega, fun b hb => ⟨a, b, rfl, trivial, BIF_n (fun h4 => ?_) (fun h4 => ⟨by omega, i + 1, ⟨⟨by omega, fun j c d hj hc hd => ?_⟩, by dsimp only; omega⟩, by simp, trivial⟩)⟩⟩⟩
    · rw [if_neg] at h
      · exact h
      · intro hh
        have := (ascG_iff l).1 hh (i - 1) a b (by rw [← ha]; congr 1; omega) (by rw [← hb]; congr 1; omega)
        rw [this] at h4; cases h4
    · by_cases e : j + 1 = i
      · have h5 : l[j]? = some a := by rw [← ha]; congr 1; omega
        have h6 : l[j + 1]? = some b := by rw [← hb, e, Int.toNat_natCast]
        rw [hc] at h5; rw [hd] at h6
        obtain rfl := Option.some.inj h5
        obtain rfl := Option.some.inj h6
        exact h4
      · exact hno j c d (by omega) hc hd
  · rw [if_pos] at h
    · exact h
    · exact (ascG_iff l).2 fun j a b ha hb => hno j a b (by have := (List.getElem?_eq_some_iff.1 hb).1; omega) ha hb
theorem RLookup_ok : SpecOk Tryd.prog E 42 RLookupPT := spec (.cons RCValidate_ok (.cons RNormal_ok (.cons RDate_ok .nil))) (by kernel_rfl) fun args bo Q h => by
  obtain ⟨l, c, p, t, rfl, rfl, hl, h⟩ := h
  rw [RLookup_vc]
  simp only [View.ls_len]
  unfold lookF at h
  refine ⟨l, rfl, trivial, hl, BIF_ne (fun e => ?_) (fun e => ⟨p, rfl, trivial, t, rfl, trivial, fun y d hh mi => ?_⟩)⟩
  · rw [if_pos e] at h; exact h
  rw [if_neg (by omega)] at h
  refine BIF_ne (fun g => ?_) (fun g => BIF_ne (fun g2 => ?_) (fun g2 => ?_))
  · rw [if_pos (.inl g)] at h; exact h
  · rw [if_pos (.inr g2)] at h; exact h
  · rw [if_neg (by omega)] at h
    refine ⟨fun _ i => ∀ (j : Nat) (n : Nrm), j < i → l[j]? = some n → isN c (nrmF p).1.f (monF t) n = false, fun _ i => l.length - i, ⟨0, fun j r hj => by omega, rfl, trivial⟩, fun i hno => BIF_d (fun h1 => ⟨l, rfl, by omega, fun n hn => ?_⟩) (fun h1 => ?_)⟩
    · rw [Int.toNat_natCast] at hn
      have nxt : isN c (nrmF p).1.f (monF t) n = false → ∃ x' : Nat, ((∀ (j : Nat) (n : Nrm), j < x' → l[j]? = some n → isN c (nrmF p).1.f (monF t) n = false) ∧ l.length - x' < l.length - i) ∧ [V.int .i64 ((i : Int) + 1)] = [V.int .i64 (x' : Int)] ∧ True := by
        intro hf
        refine ⟨i + 1, ⟨fun j y hj hy => ?_, by omega⟩, by simp, trivial⟩
        by_cases e : j = i
        · subst e; rw [hn] at hy; obtain rfl := Option.some.inj hy; exact hf
        · exact hno j y (by omega) hy
      refine BIF_e (fun k1 => BIF_e (fun k2 => BIF_e (fun k3 => ?_) (fun k => ⟨by omega, nxt ?_⟩)) (fun k => ⟨by omega, nxt ?_⟩)) (fun k => ⟨by omega, nxt ?_⟩)
      · have hf : l.find? (isN c (nrmF p).1.f (monF t)) = some n := by
          rw [List.find?_eq_some_iff_getElem]
          refine ⟨by unfold isN; simp [k1, k2, k3], i, by omega, (List.getElem?_eq_some_iff.1 hn).2, fun j hj => ?_⟩
          rw [hno j _ hj (List.getElem?_eq_getElem (by omega))]
          simp
        rw [hf] at h
        exact h
      · unfold isN; simp [k]
      · unfold isN; simp [k]
      · unfold isN; simp [k]
    · have hf : l.find? (isN c (nrmF p).1.f (monF t)) = none := by
        rw [List.find?_eq_none]
        intro x hx
        obtain ⟨j, hj⟩ := List.mem_iff_getElem?.1 hx
        rw [hno j x (by have := (List.getElem?_eq_some_iff.1 hj).1; omega) hj]
        simp
      rw [hf] at h
      exact h
end Go.Proofs.YtbnglnpgkcjlhaaDoor
