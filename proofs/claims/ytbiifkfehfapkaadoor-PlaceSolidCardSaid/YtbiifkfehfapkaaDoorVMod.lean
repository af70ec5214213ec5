/- The function Mod of the keeper, by the interpreter. -/
import Derived.Test.YtbiifkfehfapkaaDoorVFrame
import Derived.Test.YtbiifkfehfapkaaDoorVi20
namespace Go.Proofs.YtbiifkfehfapkaaDoor
open Go Go.Vi
set_option maxRecDepth 100000
set_option maxHeartbeats 1000000

noncomputable abbrev callD : Nat → Oracle := callV Tryd.prog E (fun _ => none)

theorem ok15 : callOk Tryd.prog 15 = true := by kernel_rfl
theorem mod_ev (n : Nat) (a b : Int) (hb : b ≤ 9223372036854775807) : callD (n + 1) 15 [.int .i64 a, .int .i64 b] [] = some (.int .i64 (if b < 1 then 0 else a % b), [], []) := by
  by_cases h1 : b < 1
  · simp [callD, callV, ok15, body, Tryd.func15, Tryd.f15, evC, runOps, effOf, effs, core, want, dstOk, evO, ofVal, ofVal1, Rd.run, Rd.bind, val, opt, vBin, vInt, Vi.start, St.app, setT, applyUp, pack, mapRes, resOf, h1,
      lookAll, nrmObs, mapIds, slIds, mapRd, nrm, bors, refs, dedup, depth, isOwn, retNm, apart, obsNv]
  · have h0 : b ≠ 0 := by omega
    by_cases h2 : a.tmod b < 0
    · have e := tmod_neg (by omega) h2
      have := Int.emod_lt_of_pos a (show 0 < b by omega)
      have := Int.emod_nonneg a h0
      have e2 : IntKind.i64.wrap (a.tmod b + b) = a % b := by rw [wrap64 (by omega) (by omega), e]
      simp [callD, callV, ok15, body, Tryd.func15, Tryd.f15, evC, runOps, effOf, effs, core, want, dstOk, evO, ofVal, ofVal1, Rd.run, Rd.bind, val, opt, vBin, vInt, Vi.start, St.app, setT, applyUp, pack, mapRes, resOf, h1, h0,
        lookAll, nrmObs, mapIds, slIds, mapRd, nrm, bors, refs, dedup, depth, isOwn, retNm, apart, obsNv, h2, e2]
    · have e := tmod_pos (by omega) h2
      simp [callD, callV, ok15, body, Tryd.func15, Tryd.f15, evC, runOps, effOf, effs, core, want, dstOk, evO, ofVal, ofVal1, Rd.run, Rd.bind, val, opt, vBin, vInt, Vi.start, St.app, setT, applyUp, pack, mapRes, resOf, h1, h0,
        lookAll, nrmObs, mapIds, slIds, mapRd, nrm, bors, refs, dedup, depth, isOwn, retNm, apart, obsNv, h2]
      exact e
end Go.Proofs.YtbiifkfehfapkaaDoor
