/- What the functions of the part 'Place' ask. -/
import Derived.Test.YtbiifkfehfapkaaDoorWg
import Derived.Test.YtbiifkfehfapkaaDoorZKeepS
set_option linter.unusedVariables false
namespace Go.Proofs.YtbiifkfehfapkaaDoor
open Go Go.Vi
set_option maxRecDepth 100000
abbrev lp1 (X : Type) (T : X → List (Nat × V)) (keep : List Nat) : LoopA := { X := X, n := 1, T := fun _ => T, keep := keep, O := fun _ _ => [], keepO := [] }
/-- A loop with a growing slice of the own: nil, or told by its list. -/
abbrev lpG (X : Type) (T : X → List (Nat × V)) (keep : List Nat) (slot : Nat) (id : Vi.Id) (e : TypeId) (w : View) (l : X → List w.α) : LoopA :=
  { X := X, n := 2, T := fun i x => T x ++ [(slot, if i = 0 then .nl else .sl id 0 (l x).length e false)], keep := keep, O := fun i x => if i = 0 then [] else [(id, true, ⟨e, w.fl (l x), false⟩)], keepO := [] }
def FacePT : PT := fun args bo Q => ∃ f : Int, args = [.int .i64 f] ∧ bo = [] ∧ Q (.bool (okF f)) [] []
def ValidPT : PT := fun args bo Q => ∃ p : Pl, args = [p.v] ∧ bo = [] ∧ Q (.bool (okP p)) [] []
def CornersPT : PT := fun args bo Q => ∃ n : Int, args = [.int .i64 n] ∧ bo = [] ∧ Q (.tup [(cornF n).1.v, .int .i64 (cornF n).2]) [] []
def OfPT : PT := fun args bo Q => ∃ p : Pl, args = [p.v] ∧ bo = [] ∧ okP p = true ∧ Q (wv (wt p)) [] []
def OnPT : PT := fun args bo Q => ∃ (n : Int) (g : Nat → Int), args = [.int .i64 n, wv g] ∧ bo = [] ∧ okF n = true ∧ Q (.tup [(onP n g).v, .bool (okP (onP n g))]) [] []
def NormalPT : PT := fun args bo Q => ∃ p : Pl, args = [p.v] ∧ bo = [] ∧ Q (.tup [(nrmF p).1.v, .int .i64 (nrmF p).2]) [] []
def AddressesPT : PT := fun args bo Q => ∃ p : Pl, args = [p.v] ∧ bo = [] ∧ Q (.tup [.fs (vwPl.ls (addrF p).1), .int .i64 (addrF p).2]) [] []
def SamePT : PT := fun args bo Q => ∃ p q : Pl, args = [p.v, q.v] ∧ bo = [] ∧ Q (.bool (sameF p q)) [] []
end Go.Proofs.YtbiifkfehfapkaaDoor
