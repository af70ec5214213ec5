/- The frame of this seat's cards: a world that lays the tables, and the closed facts of the program. -/
import Derived.Test.YtbnglnpgkcjlhaaDoorZBFrame
import Derived.Test.YtbnglnpgkcjlhaaDoorWg
import Derived.Test.YtbnglnpgkcjlhaaDoorTie
import Derived.Test.YtbnglnpgkcjlhaaDoorCards
import Derived.SevenTiedAt
import Derived.JoinedOf
import Derived.LaidLaws
import Derived.LaidHandle
import Derived.ChangeVars
import Derived.RowKit
namespace Go.Proofs.YtbnglnpgkcjlhaaDoor
open Go Go.Vi
set_option maxRecDepth 100000

theorem Tryd.own : ownKnob Tryd.prog.godebug = none := by kernel_rfl
theorem Tryd.laidOut : laidOutB Tryd.prog = true := by kernel_rfl
theorem Tryd.gNam0 : Tryd.prog.globalNamed "synoptic/place.corners" = some 0 := by kernel_rfl
theorem Tryd.gTyp0 : (Tryd.prog.globals[0]?).map (·.type) = some 114 := by kernel_rfl
theorem Tryd.gOk0 : okT Tryd.prog 6 114 = true := by kernel_rfl
theorem gDvs0 : cornersV = dvs Rows.laid_synoptic_place_corners (H := Unit) := by kernel_rfl
theorem Tryd.gNam1 : Tryd.prog.globalNamed "synoptic/element.bounds" = some 1 := by kernel_rfl
theorem Tryd.gTyp1 : (Tryd.prog.globals[1]?).map (·.type) = some 118 := by kernel_rfl
theorem Tryd.gOk1 : okT Tryd.prog 6 118 = true := by kernel_rfl
theorem gDvs1 : boundsV = dvs Rows.laid_synoptic_element_bounds (H := Unit) := by kernel_rfl

theorem E_gl (g : Nat) (c : List V) (h : E.gl g = some c) : ∃ n d, (n, d) ∈ [("synoptic/place.corners", (Rows.laid_synoptic_place_corners : DataW Unit)), ("synoptic/element.bounds", (Rows.laid_synoptic_element_bounds : DataW Unit))] ∧ Tryd.prog.globalNamed n = some g ∧ c = dvs d ∧
    ∃ t, (Tryd.prog.globals[g]?).map (·.type) = some t ∧ okT Tryd.prog 6 t = true := by
  simp only [E] at h
  split at h
  · rename_i hg
    subst hg
    obtain rfl := Option.some.inj h
    exact ⟨_, _, List.mem_cons_self, Tryd.gNam0, gDvs0, 114, Tryd.gTyp0, Tryd.gOk0⟩
  split at h
  · rename_i hg
    subst hg
    obtain rfl := Option.some.inj h
    exact ⟨_, _, (List.mem_cons_of_mem _ List.mem_cons_self), Tryd.gNam1, gDvs1, 118, Tryd.gTyp1, Tryd.gOk1⟩
  · cases h

/-- Plain cells, as the memory holds them. -/
def vals (l : List V) : List Value := l.map fun v => match v with
  | .int k n => .int k n
  | .str s => .string s
  | .bool b => .bool b
  | _ => .bool false
/-- A world that lays the tables. -/
noncomputable def laidWorld (os : Os) : World :=
  let w0 := World.holding Tryd.prog os ⟨#[], #[], []⟩
  { w0 with heap := ((w0.heap.modify 0 fun | .cells _ t frozen => .cells (vals cornersV).toArray t frozen | o => o).modify 1 fun | .cells _ t frozen => .cells (vals boundsV).toArray t frozen | o => o) }
theorem laidWorld_met (os : Os) (args : Array Value) : laidMet Tryd.prog [("synoptic/place.corners", Rows.laid_synoptic_place_corners), ("synoptic/element.bounds", Rows.laid_synoptic_element_bounds)] ((laidWorld os).forCall (fun _ _ => 0) ⟨#[], args, []⟩).memory :=
  laidMet_of_run' 8 (by kernel_rfl) (by kernel_rfl)
theorem u_int : Tryd.prog.underlying 3 = some (.int .i64) := by kernel_rfl
theorem u_u8 : Tryd.prog.underlying 5 = some (.int .u8) := by kernel_rfl
theorem u_string : Tryd.prog.underlying 9 = some .string := by kernel_rfl
theorem u_bool : Tryd.prog.underlying 4 = some .bool := by kernel_rfl
theorem u_ints : Tryd.prog.underlying 30 = some (.slice 3) := by kernel_rfl
theorem arg_int {ft : Nat} {x : V} (h : ArgT Tryd.prog (ft + 1) 3 x) : ∃ z, x = .int .i64 z ∧ inR z := by
  obtain ⟨z, h, hz⟩ := argInt u_int h
  exact ⟨z, h, wf_i64 hz⟩
theorem arg_u8 {ft : Nat} {x : V} (h : ArgT Tryd.prog (ft + 1) 5 x) : ∃ b : UInt8, x = .int .u8 b.toNat := by
  obtain ⟨z, rfl, hz⟩ := argInt u_u8 h
  obtain ⟨b, rfl⟩ := wf_u8 hz
  exact ⟨b, rfl⟩
theorem arg_ints {ft : Nat} {x : V} (h : ArgT Tryd.prog (ft + 2) 30 x) : ∃ l : List Int, den x = .fs (vwInt.ls l) ∧ ∀ a ∈ l, inR a := by
  obtain ⟨l, h1, _, h2⟩ := argSl (w := vwInt) (R := inR) u_ints (fun y hy => arg_int hy) h
  exact ⟨l, h1, h2⟩
end Go.Proofs.YtbnglnpgkcjlhaaDoor
