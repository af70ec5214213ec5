/- What the functions of the part 'Ref02' ask. -/
import Derived.Test.YtbnglnpgkcjlhaaDoorZPlaceS
set_option linter.unusedVariables false
namespace Go.Proofs.YtbnglnpgkcjlhaaDoor
open Go Go.Vi
set_option maxRecDepth 100000
def RValidPT : PT := fun args bo Q => ∃ p : Pl, args = [p.v] ∧ bo = [] ∧ Q (.bool (okP p)) [] []
def RCornersPT : PT := fun args bo Q => ∃ n : Int, args = [.int .i64 n] ∧ bo = [] ∧ Q (.tup [(cornF n).1.v, .int .i64 (cornF n).2]) [] []
def RWeightsPT : PT := fun args bo Q => ∃ p : Pl, args = [p.v] ∧ bo = [] ∧ okP p = true ∧ Q (wv (wt p)) [] []
def ROnPT : PT := fun args bo Q => ∃ (n : Int) (g : Nat → Int), args = [.int .i64 n, wv g] ∧ bo = [] ∧ okF n = true ∧ (∀ j, 0 ≤ g j ∧ g j ≤ 840) ∧ Q (.tup [(onP n g).v, .bool (g (corI n).x.toNat + g (corI n).y.toNat + g (corI n).z.toNat == 840)]) [] []
def RAddressesPT : PT := fun args bo Q => ∃ p : Pl, args = [p.v] ∧ bo = [] ∧ Q (.tup [.fs (vwPl.ls (addrF p).1), .int .i64 (addrF p).2]) [] []
def RNormalPT : PT := fun args bo Q => ∃ p : Pl, args = [p.v] ∧ bo = [] ∧ Q (.tup [(nrmF p).1.v, .int .i64 (nrmF p).2]) [] []
def RIsNormalPT : PT := fun args bo Q => ∃ p : Pl, args = [p.v] ∧ bo = [] ∧ Q (.bool (isNF p)) [] []
end Go.Proofs.YtbnglnpgkcjlhaaDoor
