/- Vi, part 19: running a body by hand as far as its first call that needs thought. -/
import Derived.Test.YtbiifkfehfapkaaDoorVi18
namespace Go.Vi

section
variable {P : Program} {E : Env} {C : Oracle} {fuel : Nat}

/-- The end of a body. -/
def fin (P : Program) (E : Env) (f : FuncId) (fn : Func) (bo : List Ob) : Option (Ex × St) → Option (V × List Ob × List Ob)
  | some (.normal, s) | some (.ret, s) => ((pack P (E.ownR f) fn bo.length s).run s.ob).map (·.1)
  | _ => none

theorem callV_succ {prim : FuncId → Option (Oracle → List V → List Ob → Option (V × List Ob × List Ob))} {n : Nat} {f : FuncId} {args : List V} {bo : List Ob} (hok : callOk P f = true) (hp : prim f = none) :
    callV P E prim (n + 1) f args bo = body P E (callV P E prim n) n f args bo := by
  simp [callV, hok, hp]

theorem callV_prim {prim : FuncId → Option (Oracle → List V → List Ob → Option (V × List Ob × List Ob))} {n : Nat} {f : FuncId} {args : List V} {bo : List Ob} {F : Oracle → List V → List Ob → Option (V × List Ob × List Ob)} (hok : callOk P f = true) (hp : prim f = some F) :
    callV P E prim (n + 1) f args bo = F (callV P E prim n) args bo := by
  simp [callV, hok, hp]

theorem body_fin {f : FuncId} {fn : Func} {c : Code} {args : List V} {bo : List Ob} (hf : P.funcs[f]? = some fn) (hb : fn.body = some c) :
    body P E C fuel f args bo = fin P E f fn bo (evC P E C fuel c (start fn args bo)) := by
  simp only [body, hf, hb]
  cases evC P E C fuel c (start fn args bo) with
  | none => rfl
  | some x => obtain ⟨e, s⟩ := x; cases e <;> rfl

theorem evC_seq {a b : Code} {s s' : St} (h : evC P E C fuel a s = some (.normal, s')) : evC P E C fuel (.seq a b) s = evC P E C fuel b s' := by
  simp [evC, h]

theorem evC_region {r : Nat} {ops : Array Oper} {s s' : St} (h : runOps P E C ops ops.toList s = some s') : evC P E C fuel (.region r ops false) s = some (.normal, s') := by
  simp [evC, h]

theorem runOps_cons {ops : Array Oper} {o : Oper} {l : List Oper} {s : St} {e : Eff} (h : effOf P E C ops o s = some e) : runOps P E C ops (o :: l) s = runOps P E C ops l (s.app e) := by
  simp [runOps, h]
end
end Go.Vi
