/- The functions of the part 'Keep' do what they are said to do. -/
import Derived.Test.YtbnglnpgkcjlhaaDoorZKeepV
set_option linter.unusedVariables false
namespace Go.Proofs.YtbnglnpgkcjlhaaDoor
open Go Go.Vi
set_option maxRecDepth 100000
set_option maxHeartbeats 1000000
theorem Mod_ok : SpecOk Tryd.prog E 26 ModPT := spec .nil (by kernel_rfl) fun args bo Q h => by
  obtain ⟨x, n, rfl, rfl, hx, hn, h⟩ := h
  rw [Mod_vc]
  by_cases h1 : n < 1
  · rw [if_pos h1] at h
    simpa only [BIF, decide_eq_true h1] using h
  · rw [if_neg h1] at h
    simp only [BIF, decide_eq_false h1]
    refine ⟨by omega, ?_⟩
    by_cases h2 : x.tmod n < 0
    · simp only [decide_eq_true h2]
      have e := tmod_neg (by omega) h2
      have := Int.emod_nonneg x (show n ≠ 0 by omega)
      have := Int.emod_lt_of_pos x (show 0 < n by omega)
      simp only [inR] at hn
      rw [e]
      exact ⟨by omega, h⟩
    · simp only [decide_eq_false h2]
      rw [tmod_pos (by omega) h2]
      exact h
theorem New_ok : SpecOk Tryd.prog E 9 NewPT := spec .nil (by kernel_rfl) fun args bo Q h => by
  obtain ⟨l, rfl, rfl, hl, h⟩ := h
  rw [New_vc]
  refine ⟨l, rfl, ?_, h ⟨_, 0⟩ ⟨Int.le_refl _, Int.natCast_nonneg _, ?_, ?_⟩⟩
  · rw [View.ls_len]; split <;> omega
  · rw [View.ls_len]
    simp only [List.drop_zero, Nat.sub_zero, List.length_take]
    split <;> omega
  · intro x hx
    exact hl x (by simpa using List.mem_of_mem_take hx)
theorem Raw_ok : SpecOk Tryd.prog E 27 RawPT := spec .nil (by kernel_rfl) fun args bo Q h => by
  obtain ⟨r, rfl, rfl, hr, h⟩ := h
  rw [Raw_vc, View.ls_len]
  have h1 := hr.lo
  have h2 := hr.hi
  have h3 := hr.len
  by_cases hp : r.p ≥ r.l.length
  · simp only [BIF, decide_eq_true hp]
    exact h 0 r hr (by unfold inR; omega)
  · simp only [BIF, decide_eq_false hp]
    refine ⟨by omega, by omega, r.l, rfl, by omega, fun x hx => h x ⟨r.l, r.p + 1⟩ ⟨?_, ?_, hr.len, hr.el⟩ (hr.el x (List.mem_of_getElem? hx))⟩
    · show 0 ≤ r.p + 1; omega
    · show r.p + 1 ≤ (r.l.length : Int); omega
theorem N_ok : SpecOk Tryd.prog E 13 NPT := spec (.cons Raw_ok (.cons Mod_ok .nil)) (by kernel_rfl) fun args bo Q h => by
  obtain ⟨r, n, rfl, rfl, hr, h1, h2, h⟩ := h
  rw [N_vc]
  refine ⟨r, rfl, rfl, hr, fun v r' hr' hv => ⟨v, n, rfl, rfl, hv, h2, ?_⟩⟩
  rw [if_neg (by omega)]
  exact h _ r' hr' (Int.emod_nonneg v (by omega)) (Int.emod_lt_of_pos v (by omega))
theorem Range_ok : SpecOk Tryd.prog E 14 RangePT := spec (.cons N_ok .nil) (by kernel_rfl) fun args bo Q h => by
  obtain ⟨r, a, b, rfl, rfl, hr, h1, h2, h3, h⟩ := h
  rw [Range_vc]
  refine ⟨by omega, by omega, r, b - a + 1, rfl, rfl, hr, by omega, by unfold inR; omega, fun v r' hr' h4 h5 => ⟨by omega, h _ r' hr' (by omega) (by omega)⟩⟩
end Go.Proofs.YtbnglnpgkcjlhaaDoor
