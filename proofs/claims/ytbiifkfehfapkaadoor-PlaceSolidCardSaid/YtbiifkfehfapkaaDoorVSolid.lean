/- PlaceSolid answers true for every vertex: the loop over the faces by the kernel, the call of Mod by hand, the rest, for each of the twelve remainders, by the kernel. -/
import Derived.Test.YtbiifkfehfapkaaDoorVAcross
namespace Go.Proofs.YtbiifkfehfapkaaDoor
open Go Go.Vi
set_option maxRecDepth 100000
set_option maxHeartbeats 4000000

theorem ok14 : callOk Tryd.prog 14 = true := by kernel_rfl
theorem awake_ev : callP 60 14 [] [] = some (.bool true, [], []) := by kernel_rfl
def awakeS : Sum'
  | [], [] => some (.bool true, [], [])
  | _, _ => none
theorem awake_sum : SumOk Tryd.prog E 14 awakeS := by
  intro args bo r bo' ro h
  unfold awakeS at h
  split at h
  · simp only [Option.some.injEq, Prod.mk.injEq] at h
    obtain ⟨rfl, rfl, rfl⟩ := h
    exact (callV_sound Tryd.mixed (primT_ok tabP_ok) 60 14 _ _ _ _ _ awake_ev).1
  · cases h
def tabW : List (FuncId × Sum') := (14, awakeS) :: tabA
theorem tabW_ok : TabOk Tryd.prog E tabW := ⟨⟨awake_sum, ok14⟩, tabA_ok⟩

noncomputable def c6 : Code := Tryd.f6.body.getD .skip
noncomputable def c6mod : Code := match tailC 4 c6 with | .seq a _ => a | _ => .skip
noncomputable def c6rest : Code := tailC 5 c6
theorem c6tail : tailC 4 c6 = .seq c6mod c6rest := by kernel_rfl

def sMod (s : St) (n m : Int) : St := ((s.app ⟨some 120, .int .i64 n, 0, [], []⟩).app ⟨some 121, .int .i64 m, 0, [], []⟩).app ⟨some 17, .int .i64 m, 0, [], []⟩

def isT : Option (V × List Ob × List Ob) → Bool
  | some (.bool true, [], []) => true
  | _ => false
theorem isT_eq {x : Option (V × List Ob × List Ob)} (h : isT x = true) : x = some (.bool true, [], []) := by
  unfold isT at h
  split at h
  · rfl
  · cases h

theorem chk6 (n : Int) : (match evC Tryd.prog E (tabO tabW) 59 (headC 4 c6) (Vi.start Tryd.f6 [.int .i64 n] []) with
    | some (.normal, s') => (List.range 12).all fun m => isT (fin Tryd.prog E 6 Tryd.f6 [] (evC Tryd.prog E (tabO tabW) 59 c6rest (sMod s' n (m : Nat))))
    | _ => false) = true := by kernel_rfl

theorem spares6 : spares 0 (headC 4 c6) = true := by kernel_rfl

theorem placeSolid_ev (n : Int) : body Tryd.prog E (tabO tabW) 59 6 [.int .i64 n] [] = some (.bool true, [], []) := by
  have hb : Tryd.f6.body = some c6 := by kernel_rfl
  have hc := chk6 n
  rw [body_fin Tryd.func6 hb, evC_cut 4]
  cases hh : evC Tryd.prog E (tabO tabW) 59 (headC 4 c6) (Vi.start Tryd.f6 [.int .i64 n] []) with
  | none => rw [hh] at hc; cases hc
  | some x =>
    obtain ⟨e, s'⟩ := x
    cases e with
    | exit i => rw [hh] at hc; cases hc
    | ret => rw [hh] at hc; cases hc
    | normal =>
      rw [hh] at hc
      simp only at hc ⊢
      have h0 : 0 ≤ n % 12 := Int.emod_nonneg n (by decide)
      have h1 : n % 12 < 12 := Int.emod_lt_of_pos n (by decide)
      have h2 := isT_eq (List.all_eq_true.1 hc (n % 12).toNat (List.mem_range.2 (by omega)))
      have e1 : (((n % 12).toNat : Nat) : Int) = n % 12 := by omega
      rw [e1] at h2
      have ht : s'.tm 0 = .int .i64 n := by
        have := evC_tm (t := 0) (headC 4 c6) _ _ _ spares6 hh
        rw [this]; rfl
      have hn : s'.n = 151 := by
        have := evC_n (headC 4 c6) _ _ _ hh
        exact this.trans (by kernel_rfl)
      rw [c6tail, evC_seq (s' := sMod s' n (n % 12))]
      · exact h2
      · show evC Tryd.prog E (tabO tabW) 59 (.region 27 #[_, _, _] false) _ = _
        refine evC_region ?_
        rw [runOps_cons (e := ⟨some 120, .int .i64 n, 0, [], []⟩) (by simp [effOf, core, want, dstOk, evO, Rd.run, hn, ht])]
        have hm : tabO tabW 15 [.int .i64 n, .int .i64 12] [] = some (.int .i64 (n % 12), [], []) := rfl
        rw [runOps_cons (e := ⟨some 121, .int .i64 (n % 12), 0, [], []⟩) (by
          simp [effOf, core, want, dstOk, evO, ofVal, ofVal1, Rd.run, Rd.bind, vCall, St.app, setT, applyUp, lookAll, nrmObs, mapIds, slIds, mapRd, nrm, refs, dedup, depth, apart, obsNv, back, V.light, obsLight, newUps, hn, E, hm])]
        rw [runOps_cons (e := ⟨some 17, .int .i64 (n % 12), 0, [], []⟩) (by simp [effOf, core, want, dstOk, evO, Rd.run, hn, St.app, setT, applyUp])]
        rfl

theorem placeSolid_con (n : Int) : Con Tryd.prog E 6 [.int .i64 n] [] (.bool true) [] [] := body_sound Tryd.mixed (tabO_ok tabW_ok) (placeSolid_ev n)
end Go.Proofs.YtbiifkfehfapkaaDoor
