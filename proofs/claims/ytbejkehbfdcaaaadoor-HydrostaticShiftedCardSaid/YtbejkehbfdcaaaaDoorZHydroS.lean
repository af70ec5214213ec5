/- What the functions of the part 'Hydro' ask. -/
import Derived.Test.YtbejkehbfdcaaaaDoorWg
import Derived.Test.YtbejkehbfdcaaaaDoorZElemS
set_option linter.unusedVariables false
namespace Go.Proofs.YtbejkehbfdcaaaaDoor
open Go Go.Vi
set_option maxRecDepth 100000
def LowerPT : PT := fun args bo Q => args = [] ∧ bo = [] ∧ Q (.agg [.int .i64 6, .int .i64 7, .int .i64 8, .int .i64 9, .int .i64 5683]) [] []
def UpperPT : PT := fun args bo Q => args = [] ∧ bo = [] ∧ Q (.agg [.int .i64 8, .int .i64 9, .int .i64 10, .int .i64 11, .int .i64 9848]) [] []
def ResidualPT : PT := fun args bo Q => ∃ (h t a c f : Int) (l : List I2), args = [.agg [.int .i64 h, .int .i64 t, .int .i64 a, .int .i64 c, .int .i64 f], .fs (vwI2.ls l)] ∧ bo = [] ∧ l.length ≤ 1000000000000 ∧ (f = 5683 ∨ f = 9848) ∧ Q (.tup [.int .i64 (resF h t a c f l).1, .bool (resF h t a c f l).2]) [] []
def ResidualsPT : PT := fun args bo Q => ∃ l : List I2, args = [.fs (vwI2.ls l)] ∧ bo = [] ∧ l.length ≤ 1000000000000 ∧ Q (.tup [.int .i64 (loF l).1, .bool (loF l).2, .int .i64 (upF l).1, .bool (upF l).2]) [] []
def SizePT : PT := fun args bo Q => ∃ n : Int, args = [.int .i64 n] ∧ bo = [] ∧ -9223372036854775807 ≤ n ∧ n ≤ 9223372036854775807 ∧ Q (.int .i64 (szF n)) [] []
def BothPT : PT := fun args bo Q => ∃ a b m : Int, args = [.int .i64 a, .int .i64 b, .int .i64 m] ∧ bo = [] ∧ -10000000000 ≤ a ∧ a ≤ 10000000000 ∧ -10000000000 ≤ b ∧ b ≤ 10000000000 ∧ 0 ≤ m ∧ m ≤ 1000 ∧ Q (.fs (vwInt.ls (bothF a b m))) [] []
def CheckHPT : PT := fun args bo Q => ∃ (l : List I2) (m : Int), args = [.fs (vwI2.ls l), .int .i64 m] ∧ bo = [] ∧ l.length ≤ 1000000000000 ∧ Q (.tup [.fs (vwInt.ls (chL l m)), .int .i64 (chE l m)]) [] []
end Go.Proofs.YtbejkehbfdcaaaaDoor
