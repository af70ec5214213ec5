/- The law PlaceAnswers, for every input: it answers true, and its arguments read as before; its row, and its card, tied to the program's text. -/
import Derived.Test.YtbiifkfehfapkaaDoorZCFrame
import Derived.Test.YtbiifkfehfapkaaDoorZLaw02P
namespace Go.Proofs.YtbiifkfehfapkaaDoor
open Go Go.Vi Go.ChangeShapes Go.WideShapes Go.RowKit
set_option maxRecDepth 100000
set_option maxHeartbeats 4000000

theorem placeAnswers_law (xs : List V) (h : ArgsT Tryd.prog 8 Tryd.f8.params.toList xs) : ∃ bo ro, Con Tryd.prog E 8 xs [] (.bool true) bo ro := by
  rw [show Tryd.f8.params.toList = [26, 26, 22, 3, 3] by kernel_rfl] at h
  obtain ⟨x1, q, rfl, hx1, x2, q, rfl, hx2, x3, q, rfl, hx3, x4, q, rfl, hx4, x5, q, rfl, hx5, hq⟩ := h
  simp only [ArgsT] at hq
  subst hq
  obtain ⟨p1, rfl⟩ := arg_place (ft := 6) hx1
  obtain ⟨p2, rfl⟩ := arg_place (ft := 6) hx2
  obtain ⟨l, hd, hl⟩ := arg_ints (ft := 6) hx3
  obtain ⟨a, rfl, ha⟩ := arg_int (ft := 7) hx4
  obtain ⟨b, rfl, hb⟩ := arg_int (ft := 7) hx5
  exact PlaceAnswers_ok.con ⟨p1, p2, l, a, b, by simp only [List.map_cons, List.map_nil, hd]; rfl, rfl, hl, rfl⟩

theorem placeAnswers_lifted (os : Os) (started : os.Started) (H : Type) (enc : TypeId × Value → H) :
    ReturnsInHanded {} Tryd.checked os 8 .any (fun w args => (Rows.placeAnswersSpec.pre enc Tryd.prog Tryd.f8 [] false w args ∧ laidMetH Tryd.prog Rows.placeAnswersRow.laid w) ∧ sizedMet enc Tryd.prog Tryd.f8 (OpenSpec.ofChange Rows.placeAnswersSpec) false w args)
      (Rows.placeAnswersSpec.post enc Tryd.prog Tryd.f8 false true false false) := by
  refine returnsInHanded_of_change_and (C := Tryd.checked) (X := fun w _ => laidMetH Tryd.prog Rows.placeAnswersRow.laid w) (fun _ _ _ hh h => h.of_heap hh) Tryd.own started (by kernel_rfl) Tryd.func8
    (ChangeSpec.witness_at (enc := enc) (C := Tryd.checked) (os := os) (X := fun w _ => laidMetH Tryd.prog Rows.placeAnswersRow.laid w) false (laidWorld os) #[.agg #[.int .i64 0, .int .i64 0, .int .i64 0, .int .i64 0], .agg #[.int .i64 0, .int .i64 0, .int .i64 0, .int .i64 0], .slice none 0 0, .int .i64 0, .int .i64 0] 8 rfl (by kernel_rfl) (by kernel_rfl) (by kernel_rfl) (by kernel_rfl) (by kernel_rfl) (laidWorld_met os _)) ?_
  intro W base args ds gs before hval hW _ _ hL _
  have hL' : laidMet Tryd.prog [("synoptic/place.corners", Rows.laid_synoptic_place_corners)] W := hL
  refine law_core (E := E) (ft := 8) (tb := 4) Tryd.laidOut ?_ ?_ (by kernel_rfl) (by kernel_rfl) rfl hval hW ?_ (laid_gok (ft := 6) hL' E_gl) placeAnswers_law
  · intro t ht
    have h : (Tryd.f8.params.toList.all fun t => Tryd.prog.readableRec t && decide (t < Tryd.prog.types.size)) = true := by kernel_rfl
    have h1 := List.all_eq_true.1 h t ht
    rw [Bool.and_eq_true, decide_eq_true_eq] at h1
    exact h1
  · intro t ht
    have h : (Tryd.f8.params.toList.all fun t => okT Tryd.prog 8 t) = true := by kernel_rfl
    exact List.all_eq_true.1 h t ht
  · intro ds hd
    have hn : Tryd.f8.params.size = 5 := by kernel_rfl
    rw [hn] at hd
    rcases ds with _ | ⟨d1, ds⟩
    · simp at hd
    rcases ds with _ | ⟨d2, ds⟩
    · simp at hd
    rcases ds with _ | ⟨d3, ds⟩
    · simp at hd
    rcases ds with _ | ⟨d4, ds⟩
    · simp at hd
    rcases ds with _ | ⟨d5, ds⟩
    · simp at hd
    rcases ds with _ | ⟨x, ds⟩
    · rfl
    · simp at hd

theorem placeAnswers_holds : Rows.PlaceAnswersSaid :=
  OpenClaim.holds_of_wide 8 Tryd.f8 rfl rfl rfl rfl rfl rfl rfl ⟨rfl, rfl, rfl, rfl, rfl⟩ rfl rfl rfl rfl rfl (by kernel_rfl) Tryd.func8 (by kernel_rfl)
    (of_decide_eq_true (by kernel_rfl)) (by unfold Func.isWrapper; rw [if_neg (of_decide_eq_false (by kernel_rfl))]; exact ⟨rfl, rfl⟩)
    (fun os started H enc _ => placeAnswers_lifted os started H enc)

/-- THE CARD. -/
theorem placeAnswers_card : Rows.PlaceAnswersCardSaid :=
  Claim7.holds_tied_plain_at .later [] [.data] true (true, "817a4ab13da3f86dff8edc1e91831a3e93e2e4d694c7e35ab8dab5e3f10e8eb7") false
    placeAnswers_holds (fun _ h => by cases h) (by kernel_rfl) (fun _ h => by cases h) placeAnswers_row_tie rfl ⟨rfl, rfl⟩ (by kernel_rfl) rfl
    (fun f fn hf hfn => by
      obtain rfl : f = 8 := Option.some.inj ((show Tryd.prog.funcNamed Rows.placeAnswersRow.func = some 8 by kernel_rfl).symm.trans hf) |>.symm
      obtain rfl : fn = Tryd.f8 := (Option.some.inj (Tryd.func8.symm.trans hfn)).symm
      refine ⟨by kernel_rfl, fun j t ht => ?_⟩
      have h : (Tryd.f8.params.toList.all fun t => Tryd.prog.wantsStandIn t == false) = true := by kernel_rfl
      have hm : t ∈ Tryd.f8.params.toList := by
        rw [Array.mem_toList_iff]
        exact Array.mem_of_getElem? ht
      exact beq_iff_eq.1 (List.all_eq_true.1 h t hm))
    (by kernel_rfl)
end Go.Proofs.YtbiifkfehfapkaaDoor
