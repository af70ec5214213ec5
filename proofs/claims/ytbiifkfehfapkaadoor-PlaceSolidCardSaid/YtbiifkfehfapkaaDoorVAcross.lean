/- Across at each of the sixty sides, by the kernel. -/
import Derived.Test.YtbiifkfehfapkaaDoorVPlace
namespace Go.Proofs.YtbiifkfehfapkaaDoor
open Go Go.Vi
set_option maxRecDepth 100000
set_option maxHeartbeats 4000000

def acrossL : List Int := [5, 1, 4, 6, 2, 0, 7, 3, 1, 8, 4, 2, 9, 0, 3, 10, 0, 14, 11, 1, 10, 12, 2, 11, 13, 3, 12, 14, 4, 13, 6, 5, 15, 7, 6, 16, 8, 7, 17, 9, 8, 18, 5, 9, 19, 10, 19, 16, 11, 15, 17, 12, 16, 18, 13, 17, 19, 14, 18, 15]

def isNum2 (r e : Int) : Option (V × List Ob × List Ob) → Bool
  | some (.tup [.int .i64 r', .int .i64 e'], [], []) => decide (r' = r) && decide (e' = e)
  | _ => false

theorem isNum2_eq {r e : Int} {x : Option (V × List Ob × List Ob)} (h : isNum2 r e x = true) : x = some (.tup [.int .i64 r, .int .i64 e], [], []) := by
  unfold isNum2 at h
  split at h
  · simp only [Bool.and_eq_true, decide_eq_true_eq] at h
    rw [h.1, h.2]
  · cases h

theorem ok20 : callOk Tryd.prog 20 = true := by kernel_rfl
def tabP : List (FuncId × Sum') := [(33, onS), (32, ofS), (27, validS), (34, faceS), (16, cornS)]
theorem tabP_ok : TabOk Tryd.prog E tabP := ⟨⟨on_sum, ok33⟩, ⟨of_sum, ok32⟩, ⟨valid_sum, ok27⟩, ⟨face_sum, ok34⟩, ⟨corn_sum, ok16⟩, trivial⟩
noncomputable abbrev callP : Nat → Oracle := callV Tryd.prog E (primT tabP)

theorem across_0 : ((List.range' 0 20).all fun i => isNum2 (acrossL.getD i 0) 0 (callP 50 20 [.int .i64 (i / 3 : Nat), .int .i64 (i % 3 : Nat)] [])) = true := by kernel_rfl
theorem across_1 : ((List.range' 20 20).all fun i => isNum2 (acrossL.getD i 0) 0 (callP 50 20 [.int .i64 (i / 3 : Nat), .int .i64 (i % 3 : Nat)] [])) = true := by kernel_rfl
theorem across_2 : ((List.range' 40 20).all fun i => isNum2 (acrossL.getD i 0) 0 (callP 50 20 [.int .i64 (i / 3 : Nat), .int .i64 (i % 3 : Nat)] [])) = true := by kernel_rfl

theorem across_ev {n k : Int} (h1 : 0 ≤ n) (h2 : n < 20) (h3 : 0 ≤ k) (h4 : k < 3) : callP 50 20 [.int .i64 n, .int .i64 k] [] = some (.tup [.int .i64 (acrossL.getD (n * 3 + k).toNat 0), .int .i64 0], [], []) := by
  have key : ∀ i : Nat, i < 60 → isNum2 (acrossL.getD i 0) 0 (callP 50 20 [.int .i64 (i / 3 : Nat), .int .i64 (i % 3 : Nat)] []) = true := by
    intro i hi
    by_cases h : i < 20
    · exact List.all_eq_true.1 across_0 i (List.mem_range'_1.2 (by omega))
    · by_cases h' : i < 40
      · exact List.all_eq_true.1 across_1 i (List.mem_range'_1.2 (by omega))
      · exact List.all_eq_true.1 across_2 i (List.mem_range'_1.2 (by omega))
  have h := isNum2_eq (key (n * 3 + k).toNat (by omega))
  have e1 : (((n * 3 + k).toNat / 3 : Nat) : Int) = n := by omega
  have e2 : (((n * 3 + k).toNat % 3 : Nat) : Int) = k := by omega
  rw [e1, e2] at h
  exact h

def acrossS : Sum'
  | [.int .i64 n, .int .i64 k], [] => if 0 ≤ n ∧ n < 20 ∧ 0 ≤ k ∧ k < 3 then some (.tup [.int .i64 (acrossL.getD (n * 3 + k).toNat 0), .int .i64 0], [], []) else none
  | _, _ => none

theorem across_sum : SumOk Tryd.prog E 20 acrossS := by
  intro args bo r bo' ro h
  unfold acrossS at h
  split at h
  · rename_i n k
    split at h
    · rename_i hc
      simp only [Option.some.injEq, Prod.mk.injEq] at h
      obtain ⟨rfl, rfl, rfl⟩ := h
      exact (callV_sound Tryd.mixed (primT_ok tabP_ok) 50 20 _ _ _ _ _ (across_ev hc.1 hc.2.1 hc.2.2.1 hc.2.2.2)).1
    · cases h
  · cases h

def modS : Sum'
  | [.int .i64 a, .int .i64 b], [] => if b ≤ 9223372036854775807 then some (.int .i64 (if b < 1 then 0 else a % b), [], []) else none
  | _, _ => none
theorem mod_sum : SumOk Tryd.prog E 15 modS := by
  intro args bo r bo' ro h
  unfold modS at h
  split at h
  · rename_i n k
    split at h
    · rename_i hc
      simp only [Option.some.injEq, Prod.mk.injEq] at h
      obtain ⟨rfl, rfl, rfl⟩ := h
      exact (callV_sound Tryd.mixed (fun f F h => by cases h) 1 15 _ _ _ _ _ (mod_ev 0 n k hc)).1
    · cases h
  · cases h

def tabA : List (FuncId × Sum') := (20, acrossS) :: (15, modS) :: tabP
theorem tabA_ok : TabOk Tryd.prog E tabA := ⟨⟨across_sum, ok20⟩, ⟨mod_sum, ok15⟩, tabP_ok⟩
noncomputable abbrev callS : Nat → Oracle := callV Tryd.prog E (primT tabA)
theorem callS_sound (n : Nat) : OkC Tryd.prog E (callS n) := callV_sound Tryd.mixed (primT_ok tabA_ok) n
end Go.Proofs.YtbiifkfehfapkaaDoor
