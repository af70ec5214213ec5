/- What the interpreter is told of this seat's program; how its slices are read. -/
import Derived.Test.YtbejkehbfdcaaaaDoorProg
import Derived.Test.YtbejkehbfdcaaaaDoorWg
namespace Go.Proofs.YtbejkehbfdcaaaaDoor
open Go Go.Vi
set_option maxRecDepth 100000

def boundsV : List V := [8000, 11000, 1800, 3300, 1800, 3300, -1000, 1000, -1000, 1000, 900, 1700, 2000, 3200, 2400, 3400, 2000, 3000, 4400, 6200, 2000, 2900].map (V.int .i64)

def E : Env := { gl := fun g => if g = 0 then some boundsV else none, mutA := fun _ => false, ownR := fun f => f == 17 || f == 8 }

def vws : TypeId → Option View := fun t =>
  if t = 3 then some vwInt else
  if t = 9 then some vwStr else
  if t = 5 then some vwU8 else
  if t = 32 then some vwI2 else none

theorem vws_ok : VwOk Tryd.prog vws := by
  intro e w h
  unfold vws at h
  split at h
  · rename_i he; subst he; obtain rfl := Option.some.inj h
    exact ⟨by kernel_rfl, by kernel_rfl, by decide, fun x => rfl, fun x => rfl, fun x => rfl, (by intro h; cases h), fun _ => rfl, fun _ x => rfl⟩
  split at h
  · rename_i he; subst he; obtain rfl := Option.some.inj h
    exact ⟨by kernel_rfl, by kernel_rfl, by decide, fun x => rfl, fun x => rfl, fun x => rfl, (by intro h; cases h), fun _ => rfl, fun _ x => rfl⟩
  split at h
  · rename_i he; subst he; obtain rfl := Option.some.inj h
    exact ⟨by kernel_rfl, by kernel_rfl, by decide, fun x => rfl, fun x => rfl, fun x => rfl, (by intro h; cases h), fun _ => rfl, fun _ x => rfl⟩
  split at h
  · rename_i he; subst he; obtain rfl := Option.some.inj h
    exact ⟨by kernel_rfl, by kernel_rfl, by decide, fun x => rfl, fun x => rfl, fun x => rfl, fun _ x => ⟨_, rfl⟩, (by intro h; cases h), (by intro h; cases h)⟩
  · cases h

theorem mixed : Tryd.prog.follows .mixedOrders = true := by kernel_rfl

abbrev rob (r : Rdr) : Ob := ⟨43, [.fs (vwInt.ls r.l), .int .i64 r.p], false⟩

/-- What is told of a function. -/
abbrev sy (sp : List (FuncId × PT)) (md : List (Nat × Nat × TypeId × Nat) := []) (lp : List (Nat × LoopA) := []) (ct : List (Nat × LoopA) := []) : Sy := { vw := vws, md := md, lp := lp, ct := ct, sp := sp, fu := 60, tag := fun _ p => p }

theorem spec {sp : List (FuncId × PT)} {md : List (Nat × Nat × TypeId × Nat)} {lp ct : List (Nat × LoopA)} (hsp : SpecsOk Tryd.prog E sp) {f : FuncId} (hok : callOk Tryd.prog f = true) {pt : PT} (h : ∀ args bo Q, pt args bo Q → wpF Tryd.prog E (sy sp md lp ct) f args bo Q) : SpecOk Tryd.prog E f pt :=
  specOk mixed vws_ok hsp (fun _ _ h => h) hok h

theorem spec2 {sp : List (FuncId × PT)} (hsp : SpecsOk Tryd.prog E sp) {f : FuncId} (hok : callOk Tryd.prog f = true) {pt : PT} (h : ∀ args bo Q, pt args bo Q → ∃ md lp ct, wpF Tryd.prog E (sy sp md lp ct) f args bo Q) : SpecOk Tryd.prog E f pt :=
  ⟨hok, fun args bo Q hp => by
    obtain ⟨md, lp, ct, h⟩ := h args bo Q hp
    exact wpF_sound (S := sy sp md lp ct) mixed vws_ok hsp (fun _ _ h => h) h⟩

/-- A call that is known whole, by the interpreter. -/
theorem closed {n : Nat} {f : FuncId} {args : List V} {r : V} {bo' ro : List Ob} (h : callV Tryd.prog E (fun _ => none) n f args [] = some (r, bo', ro)) : SpecOk Tryd.prog E f (fun a bo Q => a = args ∧ bo = [] ∧ Q r bo' ro) := by
  have hc := callV_sound (E := E) mixed (prim := fun _ => none) (fun f F hF => by cases hF) n f args [] r bo' ro h
  refine ⟨hc.2, fun a bo Q h => ?_⟩
  obtain ⟨rfl, rfl, h⟩ := h
  exact ⟨r, bo', ro, hc.1, h⟩
end Go.Proofs.YtbejkehbfdcaaaaDoor
