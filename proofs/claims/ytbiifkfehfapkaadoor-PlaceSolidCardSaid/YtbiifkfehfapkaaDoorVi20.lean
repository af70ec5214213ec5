/- Vi, part 20: plain facts on Go's int. -/
import Derived.Test.YtbiifkfehfapkaaDoorVi19
namespace Go.Vi

theorem wrap64 {x : Int} (h1 : -9223372036854775808 ≤ x) (h2 : x ≤ 9223372036854775807) : IntKind.i64.wrap x = x := by
  show (if decide (x % 18446744073709551616 ≥ 9223372036854775808) = true then x % 18446744073709551616 - 18446744073709551616 else x % 18446744073709551616) = x
  split <;> rename_i h <;> simp only [decide_eq_true_eq, ge_iff_le] at h <;> omega

theorem tmod_neg {a b : Int} (hb : 0 < b) (h : a.tmod b < 0) : a.tmod b + b = a % b := by
  have h0 := Int.emod_nonneg a (show b ≠ 0 by omega)
  have h1 : ((b.natAbs : Nat) : Int) = b := Int.natAbs_of_nonneg (by omega)
  rw [Int.tmod_eq_emod] at *
  split at h
  · omega
  · rename_i hc; rw [if_neg hc, h1]; omega

theorem tmod_pos {a b : Int} (hb : 0 < b) (h : ¬ a.tmod b < 0) : a.tmod b = a % b := by
  have h0 := Int.emod_lt_of_pos a hb
  have h1 : ((b.natAbs : Nat) : Int) = b := Int.natAbs_of_nonneg (by omega)
  rw [Int.tmod_eq_emod] at *
  split at h
  · rename_i hc; rw [if_pos hc]; omega
  · rename_i hc; rw [h1] at h; omega

end Go.Vi
