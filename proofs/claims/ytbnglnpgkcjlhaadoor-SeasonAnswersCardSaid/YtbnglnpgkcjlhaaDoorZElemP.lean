/- The functions of the part 'Elem' do what they are said to do. -/
import Derived.Test.YtbnglnpgkcjlhaaDoorZElemV
set_option linter.unusedVariables false
namespace Go.Proofs.YtbnglnpgkcjlhaaDoor
open Go Go.Vi
set_option maxRecDepth 100000
set_option maxHeartbeats 1000000
theorem Describe_ok : SpecOk Tryd.prog E 81 DescribePT := spec2 .nil (by kernel_rfl) fun args bo Q h => by
  obtain ⟨c, rfl, rfl, h⟩ := h
  by_cases hc : 1 ≤ c ∧ c ≤ 11
  · have : c = 1 ∨ c = 2 ∨ c = 3 ∨ c = 4 ∨ c = 5 ∨ c = 6 ∨ c = 7 ∨ c = 8 ∨ c = 9 ∨ c = 10 ∨ c = 11 := by omega
    rcases this with rfl | rfl | rfl | rfl | rfl | rfl | rfl | rfl | rfl | rfl | rfl
    · exact ⟨_, _, _, (Describe_vc1 Q).mpr ⟨by omega, by omega, h _ _⟩⟩
    · exact ⟨_, _, _, (Describe_vc2 Q).mpr ⟨by omega, by omega, h _ _⟩⟩
    · exact ⟨_, _, _, (Describe_vc3 Q).mpr ⟨by omega, by omega, h _ _⟩⟩
    · exact ⟨_, _, _, (Describe_vc4 Q).mpr ⟨by omega, by omega, h _ _⟩⟩
    · exact ⟨_, _, _, (Describe_vc5 Q).mpr ⟨by omega, by omega, h _ _⟩⟩
    · exact ⟨_, _, _, (Describe_vc6 Q).mpr ⟨by omega, by omega, h _ _⟩⟩
    · exact ⟨_, _, _, (Describe_vc7 Q).mpr ⟨by omega, by omega, h _ _⟩⟩
    · exact ⟨_, _, _, (Describe_vc8 Q).mpr ⟨by omega, by omega, h _ _⟩⟩
    · exact ⟨_, _, _, (Describe_vc9 Q).mpr ⟨by omega, by omega, h _ _⟩⟩
    · exact ⟨_, _, _, (Describe_vc10 Q).mpr ⟨by omega, by omega, h _ _⟩⟩
    · exact ⟨_, _, _, (Describe_vc11 Q).mpr ⟨by omega, by omega, h _ _⟩⟩
  · refine ⟨_, _, _, (Describe_vc0 c Q).mpr ?_⟩
    have e : dscF c = (⟨0, 0⟩, 4) := by unfold dscF; rw [if_neg hc]
    rw [e] at h
    exact BIF_d (fun _ => h ⟨#[]⟩ 0) (fun h1 => BIF_d (fun _ => h ⟨#[]⟩ 0) (fun h2 => absurd (by omega) hc))
theorem RDescribe_ok : SpecOk Tryd.prog E 45 RDescribePT := spec2 .nil (by kernel_rfl) fun args bo Q h => by
  obtain ⟨c, rfl, rfl, h⟩ := h
  by_cases hc : 1 ≤ c ∧ c ≤ 11
  · have : c = 1 ∨ c = 2 ∨ c = 3 ∨ c = 4 ∨ c = 5 ∨ c = 6 ∨ c = 7 ∨ c = 8 ∨ c = 9 ∨ c = 10 ∨ c = 11 := by omega
    rcases this with rfl | rfl | rfl | rfl | rfl | rfl | rfl | rfl | rfl | rfl | rfl
    · exact ⟨_, _, _, (RDescribe_vc1 Q).mpr ⟨by omega, h _ _⟩⟩
    · exact ⟨_, _, _, (RDescribe_vc2 Q).mpr ⟨by omega, h _ _⟩⟩
    · exact ⟨_, _, _, (RDescribe_vc3 Q).mpr ⟨by omega, h _ _⟩⟩
    · exact ⟨_, _, _, (RDescribe_vc4 Q).mpr ⟨by omega, h _ _⟩⟩
    · exact ⟨_, _, _, (RDescribe_vc5 Q).mpr ⟨by omega, h _ _⟩⟩
    · exact ⟨_, _, _, (RDescribe_vc6 Q).mpr ⟨by omega, h _ _⟩⟩
    · exact ⟨_, _, _, (RDescribe_vc7 Q).mpr ⟨by omega, h _ _⟩⟩
    · exact ⟨_, _, _, (RDescribe_vc8 Q).mpr ⟨by omega, h _ _⟩⟩
    · exact ⟨_, _, _, (RDescribe_vc9 Q).mpr ⟨by omega, h _ _⟩⟩
    · exact ⟨_, _, _, (RDescribe_vc10 Q).mpr ⟨by omega, h _ _⟩⟩
    · exact ⟨_, _, _, (RDescribe_vc11 Q).mpr ⟨by omega, h _ _⟩⟩
  · refine ⟨_, _, _, (RDescribe_vc0 c Q).mpr ?_⟩
    have e : dscF c = (⟨0, 0⟩, 4) := by unfold dscF; rw [if_neg hc]
    rw [e] at h
    exact BIF_d (fun _ => h ⟨#[]⟩ 0) (fun h1 => BIF_d (fun _ => h ⟨#[]⟩ 0) (fun h2 => absurd (by omega) hc))
theorem Check_ok : SpecOk Tryd.prog E 69 CheckPT := spec (.cons Describe_ok .nil) (by kernel_rfl) fun args bo Q h => by
  obtain ⟨r, rfl, rfl, h⟩ := h
  rw [Check_vc]
  refine ⟨r.x, rfl, rfl, fun s d => ?_⟩
  unfold chkF at h
  refine BIF_e (fun h1 => ?_) (fun h1 => ?_)
  · rw [if_pos h1] at h
    refine BIF_d (fun h2 => ?_) (fun h2 => BIF_d (fun h3 => ?_) (fun h3 => ?_))
    · rw [if_pos (Or.inl h2)] at h; exact h
    · rw [if_pos (Or.inr h3)] at h; exact h
    · rw [if_neg (by omega)] at h; rw [h1]; exact h
  · rw [if_neg h1] at h
    have e4 : (dscF r.x).2 = 4 := by
      unfold dscF at h1 ⊢
      by_cases hc : 1 ≤ r.x ∧ r.x ≤ 11
      · rw [if_pos hc] at h1; exact absurd rfl h1
      · rw [if_neg hc]
    rw [e4]
    exact h
theorem Bad_ok : SpecOk Tryd.prog E 68 BadPT := spec (.cons Check_ok .nil) (by kernel_rfl) fun args bo Q h => by
  obtain ⟨r, e, rfl, rfl, h⟩ := h
  rw [Bad_vc]
  exact ⟨r, rfl, rfl, h⟩
theorem Is_ok : SpecOk Tryd.prog E 58 IsPT := spec .nil (by kernel_rfl) fun args bo Q h => by
  obtain ⟨r, e, rfl, rfl, h⟩ := h
  rw [Is_vc]
  exact h
theorem Idx_ok : SpecOk Tryd.prog E 57 IdxPT := spec2 (.cons Bad_ok (.cons Is_ok .nil)) (by kernel_rfl) fun args bo Q h => by
  rcases h with ⟨l, e, rfl, rfl, hl, h⟩ | ⟨l, e, rfl, rfl, hl, h⟩
  · refine ⟨_, _, _, (Idx_vc l e Q).mpr ?_⟩
    refine ⟨fun _ i => i ≤ l.length ∧ ∀ j y, j < i → l[j]? = some y → (chkF y == e) = false, fun _ i => l.length - i, ⟨0, ⟨Nat.zero_le _, fun j y hj => by omega⟩, rfl, rfl, trivial⟩, fun i ⟨hi, hno⟩ => BIF_d (fun h1 => ?_) (fun h1 => ?_)⟩
    · rw [View.ls_len] at h1
      refine ⟨l, rfl, by omega, fun x hx => ⟨x, e, rfl, rfl, BIF_in (fun h2 => ?_) (fun h2 => ⟨by omega, i + 1, ⟨⟨by omega, fun j y hj hy => ?_⟩, by dsimp only; omega⟩, by simp, rfl, trivial⟩)⟩⟩
      · rw [Int.toNat_natCast] at hx
        rw [idx_at (p := fun r => chkF r == e) hx h2 hno] at h
        exact h
      · rw [Int.toNat_natCast] at hx
        by_cases hji : j = i
        · subst hji; rw [hx] at hy; obtain rfl := Option.some.inj hy; exact h2
        · exact hno j y (by omega) hy
    · rw [View.ls_len] at h1
      rw [idx_no (p := fun r => chkF r == e) fun j y hy => hno j y (by have := (List.getElem?_eq_some_iff.1 hy).1; omega) hy] at h
      exact h
  · refine ⟨_, _, _, (Idx_vc2 l e Q).mpr ?_⟩
    refine ⟨fun _ i => i ≤ l.length ∧ ∀ j y, j < i → l[j]? = some y → (y.x == e) = false, fun _ i => l.length - i, ⟨0, ⟨Nat.zero_le _, fun j y hj => by omega⟩, rfl, rfl, trivial⟩, fun i ⟨hi, hno⟩ => BIF_d (fun h1 => ?_) (fun h1 => ?_)⟩
    · rw [View.ls_len] at h1
      refine ⟨l, rfl, by omega, fun x hx => ⟨x, e, rfl, rfl, BIF_in (fun h2 => ?_) (fun h2 => ⟨by omega, i + 1, ⟨⟨by omega, fun j y hj hy => ?_⟩, by dsimp only; omega⟩, by simp, rfl, trivial⟩)⟩⟩
      · rw [Int.toNat_natCast] at hx
        rw [idx_at (p := fun r => r.x == e) hx h2 hno] at h
        exact h
      · rw [Int.toNat_natCast] at hx
        by_cases hji : j = i
        · subst hji; rw [hx] at hy; obtain rfl := Option.some.inj hy; exact h2
        · exact hno j y (by omega) hy
    · rw [View.ls_len] at h1
      rw [idx_no (p := fun r => r.x == e) fun j y hy => hno j y (by have := (List.getElem?_eq_some_iff.1 hy).1; omega) hy] at h
      exact h
theorem Cont_ok : SpecOk Tryd.prog E 67 ContPT := spec (.cons Idx_ok .nil) (by kernel_rfl) fun args bo Q h => by
  obtain ⟨l, e, rfl, rfl, hl, h⟩ := h
  rw [Cont_vc]
  refine .inl ⟨l, e, rfl, rfl, hl, ?_⟩
  rw [idx_any]
  exact h
theorem Has_ok : SpecOk Tryd.prog E 66 HasPT := spec (.cons Cont_ok .nil) (by kernel_rfl) fun args bo Q h => by
  obtain ⟨l, e, rfl, rfl, hl, h⟩ := h
  rw [Has_vc]
  exact ⟨l, e, rfl, rfl, hl, h⟩
theorem Find_ok : SpecOk Tryd.prog E 43 FindPT := spec (.cons Idx_ok .nil) (by kernel_rfl) fun args bo Q h => by
  obtain ⟨l, c, rfl, rfl, hl, h⟩ := h
  rw [Find_vc]
  refine .inr ⟨l, c, rfl, rfl, hl, ?_⟩
  rcases idx_find l c with ⟨h1, h2⟩ | ⟨h1, h2, h3⟩
  · rw [h2] at h
    exact BIF_d (fun _ => h) (fun h4 => absurd h1 h4)
  · refine BIF_d (fun h4 => by omega) (fun _ => ⟨l, rfl, ⟨h1, h2⟩, fun x hx => ?_⟩)
    rw [h3 x hx] at h
    exact h
theorem Validate_ok : SpecOk Tryd.prog E 51 ValidatePT := spec (.cons Has_ok .nil) (by kernel_rfl) fun args bo Q h => by
  obtain ⟨l, rfl, rfl, hl, h⟩ := h
  rw [Validate_vc]
  refine ⟨l, 4, rfl, rfl, hl, BIF_in (fun h1 => ?_) (fun h1 => ⟨l, 1, rfl, rfl, hl, BIF_in (fun h2 => ?_) (fun h2 => ?_)⟩)⟩
  · unfold valF at h; rw [if_pos h1] at h; exact h
  · unfold valF at h; rw [h1, if_neg (by simp), if_pos h2] at h; exact h
  · unfold valF at h
    rw [h1, h2, if_neg (by simp), if_neg (by simp)] at h
    refine ⟨fun _ i => 1 ≤ i ∧ ∀ (j : Nat) (a b : I2), j + 1 < i → l[j]? = some a → l[j + 1]? = some b → a.x < b.x, fun _ i => l.length - i, ⟨1, ⟨Nat.le_refl _, fun j a b hj => by omega⟩, rfl, trivial⟩, fun i ⟨hi, hno⟩ => BIF_d (fun h3 => ?_) (fun h3 => ?_)⟩
    · rw [View.ls_len] at h3
      refine ⟨by omega, l, rfl, by omega, fun a ha => ⟨l, rfl, by omega, fun b hb => BIF_d (fun h4 => ?_) (fun h4 => ⟨by omega, i + 1, ⟨⟨by omega, fun j c d hj hc hd => ?_⟩, by dsimp only; omega⟩, by simp, trivial⟩)⟩⟩
      · rw [if_neg] at h
        · exact h
        · intro hh
          have := (asc_iff l).1 hh (i - 1) a b (by rw [← ha]; congr 1; omega) (by rw [← hb]; congr 1; omega)
          omega
      · by_cases e : j + 1 = i
        · have h5 : l[j]? = some a := by rw [← ha]; congr 1; omega
          have h6 : l[j + 1]? = some b := by rw [← hb, e, Int.toNat_natCast]
          rw [hc] at h5; rw [hd] at h6
          obtain rfl := Option.some.inj h5
          obtain rfl := Option.some.inj h6
          omega
        · exact hno j c d (by omega) hc hd
    · rw [View.ls_len] at h3
      rw [if_pos] at h
      · exact h
      · exact (asc_iff l).2 fun j a b ha hb => hno j a b (by have := (List.getElem?_eq_some_iff.1 hb).1; omega) ha hb
theorem RIn_ok : SpecOk Tryd.prog E 47 RInPT := spec (.cons RDescribe_ok .nil) (by kernel_rfl) fun args bo Q h => by
  obtain ⟨r, rfl, rfl, h⟩ := h
  rw [RIn_vc]
  refine ⟨r.x, rfl, rfl, fun s d => BIF_d (fun h1 => ?_) (fun h1 => ?_)⟩
  · rw [decide_eq_true (show (dscF r.x).1.x ≤ r.y from h1), Bool.true_and] at h; exact h
  · rw [decide_eq_false (show ¬ (dscF r.x).1.x ≤ r.y from h1), Bool.false_and] at h; exact h
theorem RValidate_ok : SpecOk Tryd.prog E 31 RValidatePT := spec (.cons RDescribe_ok (.cons RIn_ok .nil)) (by kernel_rfl) fun args bo Q h => by
  obtain ⟨l, rfl, rfl, hl, h⟩ := h
  rw [RValidate_vc]
  simp only [View.ls_len]
  refine ⟨fun _ i => ∀ (j : Nat) (r : I2), j < i → l[j]? = some r → (dscF r.x).2 = 0, fun _ i => l.length - i, ⟨0, fun j r hj => by omega, rfl, trivial⟩, fun i hno => BIF_d (fun h1 => ⟨l, rfl, by omega, fun r hr => ⟨r.x, rfl, trivial, fun s d => BIF_ne (fun h2 => ?_) (fun h2 => ⟨by omega, i + 1, ⟨fun j y hj hy => ?_, by dsimp only; omega⟩, by simp, trivial⟩)⟩⟩) (fun h1 => ?_)⟩
  · rw [Int.toNat_natCast] at hr
    rw [val_4 hr h2] at h
    rw [dsc_2 h2]
    exact h
  · rw [Int.toNat_natCast] at hr
    by_cases e : j = i
    · subst e; rw [hr] at hy; obtain rfl := Option.some.inj hy; exact h2
    · exact hno j y (by omega) hy
  · have hk : ∀ (i : Nat) (r : I2), l[i]? = some r → (dscF r.x).2 = 0 := fun j r hr => hno j r (by have := (List.getElem?_eq_some_iff.1 hr).1; omega) hr
    refine ⟨fun _ i => ∀ (j : Nat) (r : I2), j < i → l[j]? = some r → ((dscF r.x).1.x ≤ r.y ∧ r.y ≤ (dscF r.x).1.y), fun _ i => l.length - i, ⟨0, fun j r hj => by omega, rfl, trivial⟩, fun i hno => BIF_d (fun h1 => ⟨l, rfl, by omega, fun r hr => ⟨r, rfl, trivial, BIF_n (fun h2 => ?_) (fun h2 => ⟨by omega, i + 1, ⟨fun j y hj hy => ?_, by dsimp only; omega⟩, by simp, trivial⟩)⟩⟩) (fun h1 => ?_)⟩
    · rw [Int.toNat_natCast] at hr
      rw [val_1 hk hr (by intro hh; simp [hh.1, hh.2] at h2)] at h
      exact h
    · rw [Int.toNat_natCast] at hr
      by_cases e : j = i
      · subst e; rw [hr] at hy; obtain rfl := Option.some.inj hy; simpa using h2
      · exact hno j y (by omega) hy
    · have hn : ∀ (i : Nat) (r : I2), l[i]? = some r → ((dscF r.x).1.x ≤ r.y ∧ r.y ≤ (dscF r.x).1.y) := fun j r hr => hno j r (by have := (List.getElem?_eq_some_iff.1 hr).1; omega) hr
      rw [val_n1 hk hn] at h
      refine ⟨fun _ i => 1 ≤ i ∧ ∀ (j : Nat) (a b : I2), j + 1 < i → l[j]? = some a → l[j + 1]? = some b → a.x < b.x, fun _ i => l.length - i, ⟨1, ⟨Nat.le_refl _, fun j a b hj => by omega⟩, rfl, trivial⟩, fun i ⟨hi, hno⟩ => BIF_d (fun h3 => ?_) (fun h3 => ?_)⟩
      · refine ⟨by omega, l, rfl, by omega, fun a ha => ⟨l, rfl, by omega, fun b hb => BIF_d (fun h4 => ?_) (fun h4 => ⟨by omega, i + 1, ⟨⟨by omega, fun j c d hj hc hd => ?_⟩, by dsimp only; omega⟩, by simp, trivial⟩)⟩⟩
        · rw [if_neg] at h
          · exact h
          · intro hh
            have := (asc_iff l).1 hh (i - 1) a b (by rw [← ha]; congr 1; omega) (by rw [← hb]; congr 1; omega)
            omega
        · by_cases e : j + 1 = i
          · have h5 : l[j]? = some a := by rw [← ha]; congr 1; omega
            have h6 : l[j + 1]? = some b := by rw [← hb, e, Int.toNat_natCast]
            rw [hc] at h5; rw [hd] at h6
            obtain rfl := Option.some.inj h5
            obtain rfl := Option.some.inj h6
            omega
          · exact hno j c d (by omega) hc hd
      · rw [if_pos] at h
        · exact h
        · exact (asc_iff l).2 fun j a b ha hb => hno j a b (by have := (List.getElem?_eq_some_iff.1 hb).1; omega) ha hb
theorem Ints_ok : SpecOk Tryd.prog E 19 IntsPT := spec .nil (by kernel_rfl) fun args bo Q h => by
  obtain ⟨a, b, rfl, rfl, hl, h⟩ := h
  rw [Ints_vc]
  simp only [View.ls_len]
  refine BIF_ne (fun h1 => ?_) (fun h1 => ?_)
  · exact Qc (b1 (by simp only [Bool.false_eq_true, false_iff, decide_eq_true_eq]; intro e; subst e; exact h1 rfl)) h
  · refine ⟨fun _ i => i ≤ a.length ∧ ∀ j, j < i → a[j]? = b[j]?, fun _ i => a.length - i, ⟨0, ⟨Nat.zero_le _, fun j hj => by omega⟩, rfl, trivial⟩, fun i ⟨hi, he⟩ => BIF_d (fun h2 => ?_) (fun h2 => ?_)⟩
    · refine ⟨a, rfl, by omega, fun x hx => ⟨b, rfl, by omega, fun y hy => BIF_ne (fun h3 => ?_) (fun h3 => ?_)⟩⟩
      · rw [Int.toNat_natCast] at hx hy
        refine Qc (b1 ?_) h
        simp only [Bool.false_eq_true, false_iff, decide_eq_true_eq]
        intro e
        subst e
        rw [hx] at hy
        exact h3 (Option.some.inj hy)
      · rw [Int.toNat_natCast] at hx hy
        subst h3
        refine ⟨by omega, i + 1, ⟨⟨by omega, fun j hj => ?_⟩, by dsimp only; omega⟩, by simp, trivial⟩
        by_cases e : j = i
        · subst e; rw [hx, hy]
        · exact he j (by omega)
    · refine Qc (b1 ?_) h
      simp only [true_iff, decide_eq_true_eq]
      apply List.ext_getElem?
      intro j
      by_cases hj : j < i
      · exact he j hj
      · rw [List.getElem?_eq_none (by omega), List.getElem?_eq_none (by omega)]
end Go.Proofs.YtbnglnpgkcjlhaaDoor
