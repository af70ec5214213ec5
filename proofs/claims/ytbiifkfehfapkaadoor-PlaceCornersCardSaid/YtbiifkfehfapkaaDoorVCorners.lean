/- PlaceCorners answers true for every vertex: the head of its body by hand, the rest, for each of the twelve remainders, by the kernel. -/
import Derived.Test.YtbiifkfehfapkaaDoorVMod
namespace Go.Proofs.YtbiifkfehfapkaaDoor
open Go Go.Vi
set_option maxRecDepth 100000
set_option maxHeartbeats 4000000

theorem ok4 : callOk Tryd.prog 4 = true := by kernel_rfl

noncomputable def c4 (k : Nat) : Code := match Tryd.f4.body with
  | some (.seq a (.seq b r)) => if k = 0 then a else if k = 1 then b else r
  | _ => .skip
theorem body4 : Tryd.f4.body = some (.seq (c4 0) (.seq (c4 1) (c4 2))) := by kernel_rfl

noncomputable def s4 (n m : Int) : St :=
  ((((Vi.start Tryd.f4 [.int .i64 n] []).app ⟨some 2, .bool false, 0, [], []⟩).app ⟨some 18, .int .i64 n, 0, [], []⟩).app ⟨some 19, .int .i64 m, 0, [], []⟩).app ⟨some 3, .int .i64 m, 0, [], []⟩

theorem head4 (n : Int) : callD 60 4 [.int .i64 n] [] = fin Tryd.prog E 4 Tryd.f4 [] (evC Tryd.prog E (callD 59) 59 (c4 2) (s4 n (n % 12))) := by
  have hm := mod_ev 58 n 12 (by decide)
  rw [if_neg (by decide)] at hm
  rw [callD, callV_succ ok4 rfl, body_fin Tryd.func4 body4, evC_seq (s' := (Vi.start Tryd.f4 [.int .i64 n] []).app ⟨some 2, .bool false, 0, [], []⟩) (by kernel_rfl)]
  rw [evC_seq (s' := s4 n (n % 12))]
  show evC Tryd.prog E (callD 59) 59 (.region 1 #[_, _, _] false) _ = _
  refine evC_region ?_
  rw [runOps_cons (e := ⟨some 18, .int .i64 n, 0, [], []⟩) (by kernel_rfl)]
  rw [runOps_cons (e := ⟨some 19, .int .i64 (n % 12), 0, [], []⟩)]
  · kernel_rfl
  · simp [effOf, core, want, dstOk, evO, ofVal, ofVal1, Rd.run, Rd.bind, vCall, Vi.start, St.app, setT, applyUp, lookAll, nrmObs, mapIds, slIds, mapRd, nrm, refs, dedup, depth, apart, obsNv, Tryd.f4, hm, back, V.light, obsLight, newUps]

theorem rest4_0 (n : Int) : fin Tryd.prog E 4 Tryd.f4 [] (evC Tryd.prog E (callD 59) 59 (c4 2) (s4 n 0)) = some (.bool true, [], []) := by kernel_rfl
theorem rest4_1 (n : Int) : fin Tryd.prog E 4 Tryd.f4 [] (evC Tryd.prog E (callD 59) 59 (c4 2) (s4 n 1)) = some (.bool true, [], []) := by kernel_rfl
theorem rest4_2 (n : Int) : fin Tryd.prog E 4 Tryd.f4 [] (evC Tryd.prog E (callD 59) 59 (c4 2) (s4 n 2)) = some (.bool true, [], []) := by kernel_rfl
theorem rest4_3 (n : Int) : fin Tryd.prog E 4 Tryd.f4 [] (evC Tryd.prog E (callD 59) 59 (c4 2) (s4 n 3)) = some (.bool true, [], []) := by kernel_rfl
theorem rest4_4 (n : Int) : fin Tryd.prog E 4 Tryd.f4 [] (evC Tryd.prog E (callD 59) 59 (c4 2) (s4 n 4)) = some (.bool true, [], []) := by kernel_rfl
theorem rest4_5 (n : Int) : fin Tryd.prog E 4 Tryd.f4 [] (evC Tryd.prog E (callD 59) 59 (c4 2) (s4 n 5)) = some (.bool true, [], []) := by kernel_rfl
theorem rest4_6 (n : Int) : fin Tryd.prog E 4 Tryd.f4 [] (evC Tryd.prog E (callD 59) 59 (c4 2) (s4 n 6)) = some (.bool true, [], []) := by kernel_rfl
theorem rest4_7 (n : Int) : fin Tryd.prog E 4 Tryd.f4 [] (evC Tryd.prog E (callD 59) 59 (c4 2) (s4 n 7)) = some (.bool true, [], []) := by kernel_rfl
theorem rest4_8 (n : Int) : fin Tryd.prog E 4 Tryd.f4 [] (evC Tryd.prog E (callD 59) 59 (c4 2) (s4 n 8)) = some (.bool true, [], []) := by kernel_rfl
theorem rest4_9 (n : Int) : fin Tryd.prog E 4 Tryd.f4 [] (evC Tryd.prog E (callD 59) 59 (c4 2) (s4 n 9)) = some (.bool true, [], []) := by kernel_rfl
theorem rest4_10 (n : Int) : fin Tryd.prog E 4 Tryd.f4 [] (evC Tryd.prog E (callD 59) 59 (c4 2) (s4 n 10)) = some (.bool true, [], []) := by kernel_rfl
theorem rest4_11 (n : Int) : fin Tryd.prog E 4 Tryd.f4 [] (evC Tryd.prog E (callD 59) 59 (c4 2) (s4 n 11)) = some (.bool true, [], []) := by kernel_rfl

theorem placeCorners_ev (n : Int) : callD 60 4 [.int .i64 n] [] = some (.bool true, [], []) := by
  rw [head4]
  have h0 : 0 ≤ n % 12 := Int.emod_nonneg n (by decide)
  have h1 : n % 12 < 12 := Int.emod_lt_of_pos n (by decide)
  have h : n % 12 = 0 ∨ n % 12 = 1 ∨ n % 12 = 2 ∨ n % 12 = 3 ∨ n % 12 = 4 ∨ n % 12 = 5 ∨ n % 12 = 6 ∨ n % 12 = 7 ∨ n % 12 = 8 ∨ n % 12 = 9 ∨ n % 12 = 10 ∨ n % 12 = 11 := by omega
  rcases h with h | h | h | h | h | h | h | h | h | h | h | h <;> rw [h]
  · exact rest4_0 n
  · exact rest4_1 n
  · exact rest4_2 n
  · exact rest4_3 n
  · exact rest4_4 n
  · exact rest4_5 n
  · exact rest4_6 n
  · exact rest4_7 n
  · exact rest4_8 n
  · exact rest4_9 n
  · exact rest4_10 n
  · exact rest4_11 n
end Go.Proofs.YtbiifkfehfapkaaDoor
