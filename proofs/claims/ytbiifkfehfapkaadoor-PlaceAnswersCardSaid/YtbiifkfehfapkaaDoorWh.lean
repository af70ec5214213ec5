/- A place on an edge, in plain Lean. -/
import Derived.Test.YtbiifkfehfapkaaDoorWg
set_option linter.unusedSimpArgs false
namespace Go.Vi
def edP (v k w : Int) : Pl := ⟨v, if 0 + ((k + 2).tmod 3).toNat * 1 = 0 then 840 - w else if 0 + ((k + 1).tmod 3).toNat * 1 = 0 then w else 0, if 0 + ((k + 2).tmod 3).toNat * 1 = 1 then 840 - w else if 0 + ((k + 1).tmod 3).toNat * 1 = 1 then w else 0, if 0 + ((k + 2).tmod 3).toNat * 1 = 2 then 840 - w else if 0 + ((k + 1).tmod 3).toNat * 1 = 2 then w else 0⟩
def edA (v k : Int) : Int := (c3 (corI v)).getD ((k + 1) % 3).toNat 0
def edB (v k : Int) : Int := (c3 (corI v)).getD ((k + 2) % 3).toNat 0

theorem ed_k {k : Int} (h : 0 ≤ k ∧ k ≤ 2) : k = 0 ∨ k = 1 ∨ k = 2 := by omega
theorem ed0 (v w : Int) : edP v 0 w = ⟨v, 0, w, 840 - w⟩ := rfl
theorem ed1 (v w : Int) : edP v 1 w = ⟨v, 840 - w, 0, w⟩ := rfl
theorem ed2 (v w : Int) : edP v 2 w = ⟨v, w, 840 - w, 0⟩ := rfl

theorem ed_ok {v k w : Int} (hv : okF v = true) (hk : 0 ≤ k ∧ k ≤ 2) (hw : 0 ≤ w ∧ w ≤ 840) : okP (edP v k w) = true := by
  have hv := okF_iff.1 hv
  rcases ed_k hk with rfl | rfl | rfl
  · rw [ed0, okP_iff]; dsimp only; omega
  · rw [ed1, okP_iff]; dsimp only; omega
  · rw [ed2, okP_iff]; dsimp only; omega

theorem ed_zeros {v k w : Int} (hk : 0 ≤ k ∧ k ≤ 2) (h0 : w ≠ 0) (h1 : w ≠ 840) : zerosP (edP v k w) = 1 := by
  rcases ed_k hk with rfl | rfl | rfl
  · rw [ed0]; unfold zerosP; dsimp only; rw [if_pos rfl, if_neg h0, if_neg (by omega)]
  · rw [ed1]; unfold zerosP; dsimp only; rw [if_neg (by omega), if_pos rfl, if_neg h0]
  · rw [ed2]; unfold zerosP; dsimp only; rw [if_neg h0, if_neg (by omega), if_pos rfl]

theorem ed_wt {v k w u : Int} (hv : okF v = true) (hk : 0 ≤ k ∧ k ≤ 2) (hu : 0 ≤ u) : wt (edP v k w) u.toNat = if u = edA v k then w else if u = edB v k then 840 - w else 0 := by
  obtain ⟨h1, h2, h3⟩ := corT_ne _ (corI_mem hv)
  obtain ⟨i1, i2, i3⟩ := corI_in v
  rcases ed_k hk with rfl | rfl | rfl
  · rw [ed0, show edA v 0 = (corI v).y from rfl, show edB v 0 = (corI v).z from rfl]
    unfold wt; dsimp only
    repeat' split
    all_goals omega
  · rw [ed1, show edA v 1 = (corI v).z from rfl, show edB v 1 = (corI v).x from rfl]
    unfold wt; dsimp only
    repeat' split
    all_goals omega
  · rw [ed2, show edA v 2 = (corI v).x from rfl, show edB v 2 = (corI v).y from rfl]
    unfold wt; dsimp only
    repeat' split
    all_goals omega

theorem c3_in (v : Int) : ∀ u ∈ c3 (corI v), 0 ≤ u ∧ u < 12 := by
  obtain ⟨i1, i2, i3⟩ := corI_in v
  intro u hu
  simp only [c3, List.mem_cons, List.not_mem_nil, or_false] at hu
  rcases hu with rfl | rfl | rfl <;> assumption

theorem inC_any {g : Int} {u : Int} (hu : 0 ≤ u) (h : (c3 (corI g)).any (fun x => x == u) = true) : inC u.toNat (corI g) = true := by
  obtain ⟨i1, i2, i3⟩ := corI_in g
  simp only [c3, List.any_cons, List.any_nil, Bool.or_false, Bool.or_eq_true, beq_iff_eq] at h
  rw [inC_iff]
  omega

theorem ed_across {v k w : Int} {g : Nat} (hv : okF v = true) (hk : 0 ≤ k ∧ k ≤ 2) (hw : 0 ≤ w ∧ w ≤ 840) (hg : g < 20) (h : hasAB v k g = true) : ∃ x ∈ addrK (edP v k w) 20, x.f = (g : Int) := by
  have hgf : okF (g : Int) = true := okF_iff.2 (by omega)
  have hok : okP (onP (g : Int) (wt (edP v k w))) = true := by
    rw [ok_patt (ed_ok hv hk hw) hgf]
    obtain ⟨i1, i2, i3⟩ := corI_in v
    have ha : (c3 (corI g)).any (fun x => x == edA v k) = true := by unfold hasAB at h; rw [Bool.and_eq_true] at h; exact h.1
    have hb : (c3 (corI g)).any (fun x => x == edB v k) = true := by unfold hasAB at h; rw [Bool.and_eq_true, Bool.and_eq_true] at h; exact h.2.1
    rcases ed_k hk with rfl | rfl | rfl
    · have a1 := inC_any i2.1 ha
      have b1 := inC_any i3.1 hb
      rw [ed0]; unfold patt; dsimp only; rw [a1, b1]; simp
    · have a1 := inC_any i3.1 ha
      have b1 := inC_any i1.1 hb
      rw [ed1]; unfold patt; dsimp only; rw [a1, b1]; simp
    · have a1 := inC_any i1.1 ha
      have b1 := inC_any i2.1 hb
      rw [ed2]; unfold patt; dsimp only; rw [a1, b1]; simp
  refine ⟨onP (g : Int) (wt (edP v k w)), ?_, rfl⟩
  simp only [addrK, List.mem_filter, List.mem_map, List.mem_range]
  exact ⟨⟨g, hg, rfl⟩, hok⟩

theorem onP_at {g : Int} {W : Nat → Int} {m : Nat} {u y : Int} (h1 : (c3 (corI g))[m]? = some u) (h2 : [(onP g W).a, (onP g W).b, (onP g W).c][m]? = some y) : y = W u.toNat := by
  have : m = 0 ∨ m = 1 ∨ m = 2 := by
    have := (List.getElem?_eq_some_iff.1 h1).1
    have : m < 3 := this
    omega
  rcases this with rfl | rfl | rfl
  · obtain rfl := Option.some.inj h1; obtain rfl := Option.some.inj h2; rfl
  · obtain rfl := Option.some.inj h1; obtain rfl := Option.some.inj h2; rfl
  · obtain rfl := Option.some.inj h1; obtain rfl := Option.some.inj h2; rfl

theorem mem_onP {p x : Pl} (hx : x ∈ addrK p 20) : x = onP x.f (wt p) := by
  simp only [addrK, List.mem_filter, List.mem_map, List.mem_range] at hx
  obtain ⟨⟨k, hk, rfl⟩, hok⟩ := hx
  rfl
end Go.Vi
