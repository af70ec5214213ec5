/- What the functions of the part 'Law15A' ask. -/
import Derived.Test.YtbnglnpgkcjlhaaDoorWi
import Derived.Test.YtbnglnpgkcjlhaaDoorZLaw15S
set_option linter.unusedVariables false
namespace Go.Proofs.YtbnglnpgkcjlhaaDoor
open Go Go.Vi
set_option maxRecDepth 100000
def vwCli : View := ⟨List Nrm, fun c => .agg [.fs (vwNrm.ls c)], 1, true⟩
attribute [reducible] vwCli
def vwsA : TypeId → Option View := fun t => if t = 24 then some vwCli else vws t
theorem vwsA_ok : VwOk Tryd.prog vwsA := by
  intro e w h
  unfold vwsA at h
  split at h
  · rename_i he; subst he; obtain rfl := Option.some.inj h
    exact ⟨by kernel_rfl, by kernel_rfl, by decide, fun x => rfl, fun x => rfl, fun x => rfl, fun _ x => ⟨_, rfl⟩, (by intro h; cases h), (by intro h; cases h)⟩
  · exact vws_ok _ _ h
abbrev syA (sp : List (FuncId × PT)) (md : List (Nat × Nat × TypeId × Nat) := []) (lp : List (Nat × LoopA) := []) (ct : List (Nat × LoopA) := []) : Sy := { vw := vwsA, md := md, lp := lp, ct := ct, sp := sp, fu := 60, tag := fun _ p => p }
theorem specA {sp : List (FuncId × PT)} {md : List (Nat × Nat × TypeId × Nat)} {lp ct : List (Nat × LoopA)} (hsp : SpecsOk Tryd.prog E sp) {f : FuncId} (hok : callOk Tryd.prog f = true) {pt : PT} (h : ∀ args bo Q, pt args bo Q → wpF Tryd.prog E (syA sp md lp ct) f args bo Q) : SpecOk Tryd.prog E f pt :=
  specOk mixed vwsA_ok hsp (fun _ _ h => h) hok h
def SAnswersPT : PT := fun args bo Q => ∃ (raw : List Nrm) (x : Rep) (l : List Int) (code : Int), args = [climV raw, x.v, .fs (vwInt.ls l), .int .i64 code] ∧ bo = [] ∧ (∀ x ∈ l, inR x) ∧ Q (.bool true) [] []
end Go.Proofs.YtbnglnpgkcjlhaaDoor
