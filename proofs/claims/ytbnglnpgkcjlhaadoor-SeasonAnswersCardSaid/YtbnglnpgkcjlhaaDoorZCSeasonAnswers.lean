/- The law SeasonAnswers, for every input: it answers true, and its arguments read as before; its row, and its card, tied to the program's text. -/
import Derived.Test.YtbnglnpgkcjlhaaDoorZCFrame
import Derived.Test.YtbnglnpgkcjlhaaDoorZArgs15
import Derived.Test.YtbnglnpgkcjlhaaDoorZLaw15AP
namespace Go.Proofs.YtbnglnpgkcjlhaaDoor
open Go Go.Vi Go.ChangeShapes Go.WideShapes Go.RowKit
set_option maxRecDepth 100000
set_option maxHeartbeats 4000000

theorem seasonAnswers_law (xs : List V) (h : ArgsT Tryd.prog 8 Tryd.f3.params.toList xs) : ∃ bo ro, Con Tryd.prog E 3 xs [] (.bool true) bo ro := by
  rw [show Tryd.f3.params.toList = [24, 29, 30, 3] by kernel_rfl] at h
  simp only [ArgsT] at h
  obtain ⟨x1, _, rfl, h1, x2, _, rfl, h2, x3, _, rfl, h3, x4, _, rfl, h4, rfl⟩ := h
  obtain ⟨raw, e1⟩ := arg_climate (ft := 4) h1
  obtain ⟨x, e2⟩ := arg_report (ft := 4) h2
  obtain ⟨l, e3, hl⟩ := arg_intsN (ft := 6) 2 h3
  obtain ⟨c, rfl, _⟩ := arg_int (ft := 7) h4
  exact SAnswers_ok.conN 3 ⟨raw, x, l, c, by rw [List.map_cons, List.map_cons, List.map_cons, List.map_cons, List.map_nil, e1, e2, e3]; rfl, rfl, hl, rfl⟩

theorem seasonAnswers_lifted (os : Os) (started : os.Started) (H : Type) (enc : TypeId × Value → H) :
    ReturnsInHanded {} Tryd.checked os 3 .any (fun w args => (Rows.seasonAnswersSpec.pre enc Tryd.prog Tryd.f3 [] false w args ∧ laidMetH Tryd.prog Rows.seasonAnswersRow.laid w) ∧ sizedMet enc Tryd.prog Tryd.f3 (OpenSpec.ofChange Rows.seasonAnswersSpec) false w args)
      (Rows.seasonAnswersSpec.post enc Tryd.prog Tryd.f3 false true false false) := by
  refine returnsInHanded_of_change_and (C := Tryd.checked) (X := fun w _ => laidMetH Tryd.prog Rows.seasonAnswersRow.laid w) (fun _ _ _ hh h => h.of_heap hh) Tryd.own started (by kernel_rfl) Tryd.func3
    (ChangeSpec.witness_at (enc := enc) (C := Tryd.checked) (os := os) (X := fun w _ => laidMetH Tryd.prog Rows.seasonAnswersRow.laid w) false (laidWorld os) #[.agg #[.slice none 0 0], .agg #[.int .i64 0, .string ⟨#[]⟩, .int .i64 0, .int .i64 0, .int .i64 0, .int .i64 0, .int .i64 0, .slice none 0 0], .slice none 0 0, .int .i64 0] 8 rfl (by kernel_rfl) (by kernel_rfl) (by kernel_rfl) (by kernel_rfl) (by kernel_rfl) (laidWorld_met os _)) ?_
  intro W base args ds gs before hval hW _ _ hL _
  have hL' : laidMet Tryd.prog [("synoptic/place.corners", Rows.laid_synoptic_place_corners), ("synoptic/element.bounds", Rows.laid_synoptic_element_bounds)] W := hL
  refine law_core (E := E) (ft := 8) (tb := 4) Tryd.laidOut ?_ ?_ (by kernel_rfl) (by kernel_rfl) rfl hval hW ?_ (laid_gok (ft := 6) hL' E_gl) seasonAnswers_law
  · intro t ht
    have h : (Tryd.f3.params.toList.all fun t => Tryd.prog.readableRec t && decide (t < Tryd.prog.types.size)) = true := by kernel_rfl
    have h1 := List.all_eq_true.1 h t ht
    rw [Bool.and_eq_true, decide_eq_true_eq] at h1
    exact h1
  · intro t ht
    have h : (Tryd.f3.params.toList.all fun t => okT Tryd.prog 8 t) = true := by kernel_rfl
    exact List.all_eq_true.1 h t ht
  · intro ds hd
    have hn : Tryd.f3.params.size = 4 := by kernel_rfl
    rw [hn] at hd
    rcases ds with _ | ⟨d1, ds⟩
    · simp at hd
    rcases ds with _ | ⟨d2, ds⟩
    · simp at hd
    rcases ds with _ | ⟨d3, ds⟩
    · simp at hd
    rcases ds with _ | ⟨d4, ds⟩
    · simp at hd
    rcases ds with _ | ⟨x, ds⟩
    · rfl
    · simp at hd

theorem seasonAnswers_holds : Rows.SeasonAnswersSaid :=
  OpenClaim.holds_of_wide 3 Tryd.f3 rfl rfl rfl rfl rfl rfl rfl ⟨rfl, rfl, rfl, rfl, rfl⟩ rfl rfl rfl rfl rfl (by kernel_rfl) Tryd.func3 (by kernel_rfl)
    (of_decide_eq_true (by kernel_rfl)) (by unfold Func.isWrapper; rw [if_neg (of_decide_eq_false (by kernel_rfl))]; exact ⟨rfl, rfl⟩)
    (fun os started H enc _ => seasonAnswers_lifted os started H enc)

/-- THE CARD. -/
theorem seasonAnswers_card : Rows.SeasonAnswersCardSaid :=
  Claim7.holds_tied_plain_at .later [] [.data, .data] true (true, "d12bd0577ea355f82cf0a97eada2f1c1ea38018c86b20206d27b763171d80a80") false
    seasonAnswers_holds (fun _ h => by cases h) (by kernel_rfl) (fun _ h => by cases h) seasonAnswers_row_tie rfl ⟨rfl, rfl⟩ (by kernel_rfl) rfl
    (fun f fn hf hfn => by
      obtain rfl : f = 3 := Option.some.inj ((show Tryd.prog.funcNamed Rows.seasonAnswersRow.func = some 3 by kernel_rfl).symm.trans hf) |>.symm
      obtain rfl : fn = Tryd.f3 := (Option.some.inj (Tryd.func3.symm.trans hfn)).symm
      refine ⟨by kernel_rfl, fun j t ht => ?_⟩
      have h : (Tryd.f3.params.toList.all fun t => Tryd.prog.wantsStandIn t == false) = true := by kernel_rfl
      have hm : t ∈ Tryd.f3.params.toList := by
        rw [Array.mem_toList_iff]
        exact Array.mem_of_getElem? ht
      exact beq_iff_eq.1 (List.all_eq_true.1 h t hm))
    (by kernel_rfl)
end Go.Proofs.YtbnglnpgkcjlhaaDoor
