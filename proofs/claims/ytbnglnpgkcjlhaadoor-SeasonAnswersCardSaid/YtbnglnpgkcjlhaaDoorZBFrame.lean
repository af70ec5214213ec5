/- What the interpreter is told of this seat's program; how its slices are read. -/
import Derived.Test.YtbnglnpgkcjlhaaDoorProg
import Derived.Test.YtbnglnpgkcjlhaaDoorWg
namespace Go.Proofs.YtbnglnpgkcjlhaaDoor
open Go Go.Vi
set_option maxRecDepth 100000

def cornersL : List Int := [0, 1, 2, 0, 2, 3, 0, 3, 4, 0, 4, 5, 0, 5, 1, 1, 6, 2, 2, 7, 3, 3, 8, 4, 4, 9, 5, 5, 10, 1, 6, 7, 2, 7, 8, 3, 8, 9, 4, 9, 10, 5, 10, 6, 1, 11, 7, 6, 11, 8, 7, 11, 9, 8, 11, 10, 9, 11, 6, 10]
def cornersV : List V := cornersL.map (V.int .i64)
def boundsL : List Int := [8000, 11000, 1800, 3300, 1800, 3300, -1000, 1000, -1000, 1000, 900, 1700, 2000, 3200, 2400, 3400, 2000, 3000, 4400, 6200, 2000, 2900]
def boundsV : List V := boundsL.map (V.int .i64)

def E : Env := { gl := fun g => if g = 0 then some cornersV else if g = 1 then some boundsV else none, mutA := fun _ => false, ownR := fun f => f == 12 }

def vws : TypeId → Option View := fun t =>
  if t = 3 then some vwInt else
  if t = 9 then some vwStr else
  if t = 5 then some vwU8 else
  if t = 26 then some vwPl else
  if t = 102 then some vwI3 else
  if t = 117 then some vwI2 else
  if t = 55 then some vwI2 else
  if t = 43 then some vwNrm else
  if t = 29 then some vwRep else none

theorem vws_ok : VwOk Tryd.prog vws := by
  intro e w h
  unfold vws at h
  split at h
  · rename_i he; subst he; obtain rfl := Option.some.inj h
    exact ⟨by kernel_rfl, by kernel_rfl, by decide, fun x => rfl, fun x => rfl, fun x => rfl, (by intro h; cases h), fun _ => rfl, fun _ x => rfl⟩
  split at h
  · rename_i he; subst he; obtain rfl := Option.some.inj h
    exact ⟨by kernel_rfl, by kernel_rfl, by decide, fun x => rfl, fun x => rfl, fun x => rfl, (by intro h; cases h), fun _ => rfl, fun _ x => rfl⟩
  split at h
  · rename_i he; subst he; obtain rfl := Option.some.inj h
    exact ⟨by kernel_rfl, by kernel_rfl, by decide, fun x => rfl, fun x => rfl, fun x => rfl, (by intro h; cases h), fun _ => rfl, fun _ x => rfl⟩
  split at h
  · rename_i he; subst he; obtain rfl := Option.some.inj h
    exact ⟨by kernel_rfl, by kernel_rfl, by decide, fun x => rfl, fun x => rfl, fun x => rfl, fun _ x => ⟨_, rfl⟩, (by intro h; cases h), (by intro h; cases h)⟩
  split at h
  · rename_i he; subst he; obtain rfl := Option.some.inj h
    exact ⟨by kernel_rfl, by kernel_rfl, by decide, fun x => rfl, fun x => rfl, fun x => rfl, fun _ x => ⟨_, rfl⟩, (by intro h; cases h), (by intro h; cases h)⟩
  split at h
  · rename_i he; subst he; obtain rfl := Option.some.inj h
    exact ⟨by kernel_rfl, by kernel_rfl, by decide, fun x => rfl, fun x => rfl, fun x => rfl, fun _ x => ⟨_, rfl⟩, (by intro h; cases h), (by intro h; cases h)⟩
  split at h
  · rename_i he; subst he; obtain rfl := Option.some.inj h
    exact ⟨by kernel_rfl, by kernel_rfl, by decide, fun x => rfl, fun x => rfl, fun x => rfl, fun _ x => ⟨_, rfl⟩, (by intro h; cases h), (by intro h; cases h)⟩
  split at h
  · rename_i he; subst he; obtain rfl := Option.some.inj h
    exact ⟨by kernel_rfl, by kernel_rfl, by decide, fun x => rfl, fun x => rfl, fun x => rfl, fun _ x => ⟨_, rfl⟩, (by intro h; cases h), (by intro h; cases h)⟩
  split at h
  · rename_i he; subst he; obtain rfl := Option.some.inj h
    exact ⟨by kernel_rfl, by kernel_rfl, by decide, fun x => rfl, fun x => rfl, fun x => rfl, fun _ x => ⟨_, rfl⟩, (by intro h; cases h), (by intro h; cases h)⟩
  · cases h

theorem mixed : Tryd.prog.follows .mixedOrders = true := by kernel_rfl

abbrev rob (r : Rdr) : Ob := ⟨62, [.fs (vwInt.ls r.l), .int .i64 r.p], false⟩

/-- What is told of a function. -/
abbrev sy (sp : List (FuncId × PT)) (md : List (Nat × Nat × TypeId × Nat) := []) (lp : List (Nat × LoopA) := []) (ct : List (Nat × LoopA) := []) : Sy := { vw := vws, md := md, lp := lp, ct := ct, sp := sp, fu := 60, tag := fun _ p => p }

abbrev lp1 (X : Type) (T : X → List (Nat × V)) (keep : List Nat) : LoopA := { X := X, n := 1, T := fun _ => T, keep := keep, O := fun _ _ => [], keepO := [] }
/-- A loop with a growing slice of the own, told by its list. -/
abbrev lpG (X : Type) (T : X → List (Nat × V)) (keep : List Nat) (slot : Nat) (id : Vi.Id) (e : TypeId) (w : View) (l : X → List w.α) : LoopA :=
  { X := X, n := 1, T := fun _ x => T x ++ [(slot, .sl id 0 (l x).length e false)], keep := keep, O := fun _ x => [(id, true, ⟨e, w.fl (l x), false⟩)], keepO := [] }

/-- The same, with other objects that are told. -/
abbrev lpGO (X : Type) (T : X → List (Nat × V)) (keep : List Nat) (slot : Nat) (id : Vi.Id) (e : TypeId) (w : View) (l : X → List w.α) (O : X → List (Vi.Id × Bool × Ob)) : LoopA :=
  { X := X, n := 1, T := fun _ x => T x ++ [(slot, .sl id 0 (l x).length e false)], keep := keep, O := fun _ x => (id, true, ⟨e, w.fl (l x), false⟩) :: O x, keepO := [] }

theorem spec {sp : List (FuncId × PT)} {md : List (Nat × Nat × TypeId × Nat)} {lp ct : List (Nat × LoopA)} (hsp : SpecsOk Tryd.prog E sp) {f : FuncId} (hok : callOk Tryd.prog f = true) {pt : PT} (h : ∀ args bo Q, pt args bo Q → wpF Tryd.prog E (sy sp md lp ct) f args bo Q) : SpecOk Tryd.prog E f pt :=
  specOk mixed vws_ok hsp (fun _ _ h => h) hok h

theorem spec2 {sp : List (FuncId × PT)} (hsp : SpecsOk Tryd.prog E sp) {f : FuncId} (hok : callOk Tryd.prog f = true) {pt : PT} (h : ∀ args bo Q, pt args bo Q → ∃ md lp ct, wpF Tryd.prog E (sy sp md lp ct) f args bo Q) : SpecOk Tryd.prog E f pt :=
  ⟨hok, fun args bo Q hp => by
    obtain ⟨md, lp, ct, h⟩ := h args bo Q hp
    exact wpF_sound (S := sy sp md lp ct) mixed vws_ok hsp (fun _ _ h => h) h⟩

/-- A call that is known whole, by the interpreter. -/
theorem closed {n : Nat} {f : FuncId} {args : List V} {r : V} {bo' ro : List Ob} (h : callV Tryd.prog E (fun _ => none) n f args [] = some (r, bo', ro)) : SpecOk Tryd.prog E f (fun a bo Q => a = args ∧ bo = [] ∧ Q r bo' ro) := by
  have hc := callV_sound (E := E) mixed (prim := fun _ => none) (fun f F hF => by cases hF) n f args [] r bo' ro h
  refine ⟨hc.2, fun a bo Q h => ?_⟩
  obtain ⟨rfl, rfl, h⟩ := h
  exact ⟨r, bo', ro, hc.1, h⟩
end Go.Proofs.YtbnglnpgkcjlhaaDoor
