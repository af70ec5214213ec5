/- What the functions of the part 'Place' ask. -/
import Derived.Test.YtbnglnpgkcjlhaaDoorWh
import Derived.Test.YtbnglnpgkcjlhaaDoorZKeepS
set_option linter.unusedVariables false
namespace Go.Proofs.YtbnglnpgkcjlhaaDoor
open Go Go.Vi
set_option maxRecDepth 100000
def FacePT : PT := fun args bo Q => ∃ f : Int, args = [.int .i64 f] ∧ bo = [] ∧ Q (.bool (okF f)) [] []
def ValidPT : PT := fun args bo Q => ∃ p : Pl, args = [p.v] ∧ bo = [] ∧ Q (.bool (okP p)) [] []
def OfPT : PT := fun args bo Q => ∃ p : Pl, args = [p.v] ∧ bo = [] ∧ okP p = true ∧ Q (wv (wt p)) [] []
def OnPT : PT := fun args bo Q => ∃ (n : Int) (g : Nat → Int), args = [.int .i64 n, wv g] ∧ bo = [] ∧ okF n = true ∧ Q (.tup [(onP n g).v, .bool (okP (onP n g))]) [] []
def NormalPT : PT := fun args bo Q => ∃ p : Pl, args = [p.v] ∧ bo = [] ∧ Q (.tup [(nrmF p).1.v, .int .i64 (nrmF p).2]) [] []
end Go.Proofs.YtbnglnpgkcjlhaaDoor
