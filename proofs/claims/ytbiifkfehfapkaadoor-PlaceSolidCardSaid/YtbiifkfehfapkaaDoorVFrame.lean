/- The frame of this seat's laws: what the laid table is for the interpreter, a world that lays it, and the closed facts of the program. -/
import Derived.Test.YtbiifkfehfapkaaDoorVi18
import Derived.Test.YtbiifkfehfapkaaDoorTie
import Derived.Test.YtbiifkfehfapkaaDoorCards
import Derived.SevenTiedAt
import Derived.JoinedOf
import Derived.LaidLaws
import Derived.LaidHandle
import Derived.ChangeVars
import Derived.RowKit
namespace Go.Proofs.YtbiifkfehfapkaaDoor
open Go Go.Vi
set_option maxRecDepth 100000

def cornersL : List Int := [0, 1, 2, 0, 2, 3, 0, 3, 4, 0, 4, 5, 0, 5, 1, 1, 6, 2, 2, 7, 3, 3, 8, 4, 4, 9, 5, 5, 10, 1, 6, 7, 2, 7, 8, 3, 8, 9, 4, 9, 10, 5, 10, 6, 1, 11, 7, 6, 11, 8, 7, 11, 9, 8, 11, 10, 9, 11, 6, 10]

def cornersV : List V := cornersL.map (V.int .i64)

/-- What the interpreter knows of the program's tables and functions. -/
def E : Env := { gl := fun g => if g = 0 then some cornersV else none, mutA := fun f => f == 35, ownR := fun _ => false }

theorem Tryd.own : ownKnob Tryd.prog.godebug = none := by kernel_rfl
theorem Tryd.laidOut : laidOutB Tryd.prog = true := by kernel_rfl
theorem Tryd.mixed : Tryd.prog.follows .mixedOrders = true := by kernel_rfl
theorem Tryd.gCorners : Tryd.prog.globalNamed "synoptic/place.corners" = some 0 := by kernel_rfl
theorem Tryd.gType : (Tryd.prog.globals[0]?).map (·.type) = some 64 := by kernel_rfl
theorem Tryd.gOk : okT Tryd.prog 6 64 = true := by kernel_rfl
theorem cornersV_dvs : cornersV = dvs Rows.laid_synoptic_place_corners (H := Unit) := by kernel_rfl

theorem E_gl (g : Nat) (c : List V) (h : E.gl g = some c) : ∃ n d, (n, d) ∈ [("synoptic/place.corners", (Rows.laid_synoptic_place_corners : DataW Unit))] ∧ Tryd.prog.globalNamed n = some g ∧ c = dvs d ∧
    ∃ t, (Tryd.prog.globals[g]?).map (·.type) = some t ∧ okT Tryd.prog 6 t = true := by
  simp only [E] at h
  split at h
  · rename_i hg
    subst hg
    obtain rfl := Option.some.inj h
    exact ⟨_, _, List.mem_singleton.2 rfl, Tryd.gCorners, cornersV_dvs, 64, Tryd.gType, Tryd.gOk⟩
  · cases h

/-- A world that lays the table. -/
noncomputable def laidWorld (os : Os) : World :=
  let w0 := World.holding Tryd.prog os ⟨#[], #[], []⟩
  { w0 with heap := w0.heap.modify 0 fun
      | .cells _ t frozen => .cells (cornersL.map (Value.int .i64)).toArray t frozen
      | o => o }
theorem laidWorld_met (os : Os) (args : Array Value) : laidMet Tryd.prog [("synoptic/place.corners", Rows.laid_synoptic_place_corners)] ((laidWorld os).forCall (fun _ _ => 0) ⟨#[], args, []⟩).memory :=
  laidMet_of_run' 8 (by kernel_rfl) (by kernel_rfl)
end Go.Proofs.YtbiifkfehfapkaaDoor
