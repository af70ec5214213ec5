/- The frame of this seat's cards: a world that lays the table, and the closed facts of the program. -/
import Derived.Test.YtbiifkfehfapkaaDoorZBFrame
import Derived.Test.YtbiifkfehfapkaaDoorWg
import Derived.Test.YtbiifkfehfapkaaDoorTie
import Derived.Test.YtbiifkfehfapkaaDoorCards
import Derived.SevenTiedAt
import Derived.JoinedOf
import Derived.LaidLaws
import Derived.LaidHandle
import Derived.ChangeVars
import Derived.RowKit
namespace Go.Proofs.YtbiifkfehfapkaaDoor
open Go Go.Vi
set_option maxRecDepth 100000

theorem Tryd.own : ownKnob Tryd.prog.godebug = none := by kernel_rfl
theorem Tryd.laidOut : laidOutB Tryd.prog = true := by kernel_rfl
theorem Tryd.gCorners : Tryd.prog.globalNamed "synoptic/place.corners" = some 0 := by kernel_rfl
theorem Tryd.gType : (Tryd.prog.globals[0]?).map (·.type) = some 64 := by kernel_rfl
theorem Tryd.gOk : okT Tryd.prog 6 64 = true := by kernel_rfl
theorem cornersV_dvs : cornersV = dvs Rows.laid_synoptic_place_corners (H := Unit) := by kernel_rfl

theorem E_gl (g : Nat) (c : List V) (h : E.gl g = some c) : ∃ n d, (n, d) ∈ [("synoptic/place.corners", (Rows.laid_synoptic_place_corners : DataW Unit))] ∧ Tryd.prog.globalNamed n = some g ∧ c = dvs d ∧
    ∃ t, (Tryd.prog.globals[g]?).map (·.type) = some t ∧ okT Tryd.prog 6 t = true := by
  simp only [E] at h
  split at h
  · rename_i hg
    subst hg
    obtain rfl := Option.some.inj h
    exact ⟨_, _, List.mem_singleton.2 rfl, Tryd.gCorners, cornersV_dvs, 64, Tryd.gType, Tryd.gOk⟩
  · cases h

/-- A world that lays the table. -/
noncomputable def laidWorld (os : Os) : World :=
  let w0 := World.holding Tryd.prog os ⟨#[], #[], []⟩
  { w0 with heap := w0.heap.modify 0 fun
      | .cells _ t frozen => .cells (cornersL.map (Value.int .i64)).toArray t frozen
      | o => o }
theorem laidWorld_met (os : Os) (args : Array Value) : laidMet Tryd.prog [("synoptic/place.corners", Rows.laid_synoptic_place_corners)] ((laidWorld os).forCall (fun _ _ => 0) ⟨#[], args, []⟩).memory :=
  laidMet_of_run' 8 (by kernel_rfl) (by kernel_rfl)

theorem u_int : Tryd.prog.underlying 3 = some (.int .i64) := by kernel_rfl
theorem u_u8 : Tryd.prog.underlying 5 = some (.int .u8) := by kernel_rfl
theorem u_string : Tryd.prog.underlying 9 = some .string := by kernel_rfl
theorem u_ints : Tryd.prog.underlying 22 = some (.slice 3) := by kernel_rfl
theorem arg_int {ft : Nat} {x : V} (h : ArgT Tryd.prog (ft + 1) 3 x) : ∃ z, x = .int .i64 z ∧ inR z := by
  obtain ⟨z, h, hz⟩ := argInt u_int h
  exact ⟨z, h, wf_i64 hz⟩
theorem arg_u8 {ft : Nat} {x : V} (h : ArgT Tryd.prog (ft + 1) 5 x) : ∃ b : UInt8, x = .int .u8 b.toNat := by
  obtain ⟨z, rfl, hz⟩ := argInt u_u8 h
  obtain ⟨b, rfl⟩ := wf_u8 hz
  exact ⟨b, rfl⟩
theorem arg_ints {ft : Nat} {x : V} (h : ArgT Tryd.prog (ft + 2) 22 x) : ∃ l : List Int, den x = .fs (vwInt.ls l) ∧ ∀ a ∈ l, inR a := by
  obtain ⟨l, h1, _, h2⟩ := argSl (w := vwInt) (R := inR) u_ints (fun y hy => arg_int hy) h
  exact ⟨l, h1, h2⟩
theorem u_place : ∃ fs, Tryd.prog.underlying 26 = some (.struct fs) ∧ fs.toList.map (·.type) = [3, 3, 3, 3] := by
  have h : (match Tryd.prog.underlying 26 with | some (.struct fs) => fs.toList.map (·.type) == [3, 3, 3, 3] | _ => false) = true := by kernel_rfl
  split at h
  · rename_i fs hu
    exact ⟨fs, hu, by simpa using h⟩
  · cases h
theorem arg_place {ft : Nat} {x : V} (h : ArgT Tryd.prog (ft + 2) 26 x) : ∃ p : Pl, x = p.v := by
  obtain ⟨fs, hu, hf⟩ := u_place
  obtain ⟨ys, rfl, h⟩ := h
  have ha : isAggT Tryd.prog 26 = true := by simp [isAggT, hu]
  rw [ha]
  simp only [HasT, hu, hf, Parts, u_int] at h
  obtain ⟨_, _, rfl, ⟨a, rfl, _⟩, _, _, rfl, ⟨b, rfl, _⟩, _, _, rfl, ⟨c, rfl, _⟩, _, _, rfl, ⟨d, rfl, _⟩, rfl⟩ := h
  exact ⟨⟨a, b, c, d⟩, rfl⟩
end Go.Proofs.YtbiifkfehfapkaaDoor
