/- What the functions of the part 'Law02' ask. -/
import Derived.Test.YtbiifkfehfapkaaDoorWg
import Derived.Test.YtbiifkfehfapkaaDoorWh
import Derived.Test.YtbiifkfehfapkaaDoorZRef02S
set_option linter.unusedVariables false
namespace Go.Proofs.YtbiifkfehfapkaaDoor
open Go Go.Vi
set_option maxRecDepth 100000
def SomewherePT : PT := fun args bo Q => ∃ r : Rdr, args = [src] ∧ bo = [rob r] ∧ r.ok ∧ ∀ (p : Pl) (r' : Rdr), r'.ok → okP p = true → Q p.v [rob r'] []
def PlacesPT : PT := fun args bo Q => ∃ a b : List Pl, args = [.fs (vwPl.ls a), .fs (vwPl.ls b)] ∧ bo = [] ∧ a.length ≤ 1000000 ∧ Q (.bool (decide (a = b))) [] []
def AwakePT : PT := fun args bo Q => args = [] ∧ bo = [] ∧ Q (.bool true) [] []
def PlaceNormalPT : PT := fun args bo Q => ∃ l : List Int, args = [.fs (vwInt.ls l)] ∧ bo = [] ∧ (∀ x ∈ l, inR x) ∧ Q (.bool true) [] []
def FormatVPT : PT := fun args bo Q => ∃ p : Pl, args = [p.v] ∧ bo = [] ∧ okP p = true ∧ Q (.tup [.str (fmtS p), .int .i64 0]) [] []
def PlaceTextsPT : PT := fun args bo Q => ∃ (s : ByteArray) (l : List Int) (a : Int) (b : UInt8), args = [.str s, .fs (vwInt.ls l), .int .i64 a, .int .u8 b.toNat] ∧ bo = [] ∧ (∀ x ∈ l, inR x) ∧ inR a ∧ Q (.bool true) [] []
def PlaceAcrossPT : PT := fun args bo Q => ∃ l : List Int, args = [.fs (vwInt.ls l)] ∧ bo = [] ∧ (∀ x ∈ l, inR x) ∧ Q (.bool true) [] []
def PlaceAnswersPT : PT := fun args bo Q => ∃ (p q : Pl) (l : List Int) (f c : Int), args = [p.v, q.v, .fs (vwInt.ls l), .int .i64 f, .int .i64 c] ∧ bo = [] ∧ (∀ x ∈ l, inR x) ∧ Q (.bool true) [] []
end Go.Proofs.YtbiifkfehfapkaaDoor
