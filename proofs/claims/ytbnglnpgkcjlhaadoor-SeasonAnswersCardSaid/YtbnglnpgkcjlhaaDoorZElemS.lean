/- What the functions of the part 'Elem' ask. -/
import Derived.Test.YtbnglnpgkcjlhaaDoorZBFrame
import Derived.Test.YtbnglnpgkcjlhaaDoorWg
set_option linter.unusedVariables false
namespace Go.Proofs.YtbnglnpgkcjlhaaDoor
open Go Go.Vi
set_option maxRecDepth 100000
abbrev cel (t : TypeId) (x : Int) : Ob := ⟨t, [.int .i64 x], false⟩
def DescribePT : PT := fun args bo Q => ∃ c : Int, args = [.int .i64 c] ∧ bo = [] ∧ ∀ (s : ByteArray) (d : Int), Q (.tup [.agg [.str s, .int .i64 (dscF c).1.x, .int .i64 (dscF c).1.y, .int .i64 d], .int .i64 (dscF c).2]) [] []
def RDescribePT : PT := fun args bo Q => ∃ c : Int, args = [.int .i64 c] ∧ bo = [] ∧ ∀ (s : ByteArray) (d : Int), Q (.tup [.agg [.str s, .int .i64 (dscF c).1.x, .int .i64 (dscF c).1.y, .int .i64 d], .int .i64 (dscF c).2]) [] []
def CheckPT : PT := fun args bo Q => ∃ r : I2, args = [r.v] ∧ bo = [] ∧ Q (.int .i64 (chkF r)) [] []
def BadPT : PT := fun args bo Q => ∃ (r : I2) (e : Int), args = [r.v, .lp (.bor 0) 0] ∧ bo = [cel 38 e] ∧ Q (.bool (chkF r == e)) [cel 38 e] []
def IsPT : PT := fun args bo Q => ∃ (r : I2) (e : Int), args = [r.v, .lp (.bor 0) 0] ∧ bo = [cel 3 e] ∧ Q (.bool (r.x == e)) [cel 3 e] []
def IdxPT : PT := fun args bo Q => (∃ (l : List I2) (e : Int), args = [.fs (vwI2.ls l), .fn 68 [.lp (.bor 0) 0]] ∧ bo = [cel 38 e] ∧ l.length ≤ 1000000000000 ∧ Q (.int .i64 (idxF (fun r => chkF r == e) l)) [cel 38 e] []) ∨
  (∃ (l : List I2) (e : Int), args = [.fs (vwI2.ls l), .fn 58 [.lp (.bor 0) 0]] ∧ bo = [cel 3 e] ∧ l.length ≤ 1000000000000 ∧ Q (.int .i64 (idxF (fun r => r.x == e) l)) [cel 3 e] [])
def ContPT : PT := fun args bo Q => ∃ (l : List I2) (e : Int), args = [.fs (vwI2.ls l), .fn 68 [.lp (.bor 0) 0]] ∧ bo = [cel 38 e] ∧ l.length ≤ 1000000000000 ∧ Q (.bool (l.any fun r => chkF r == e)) [cel 38 e] []
def HasPT : PT := fun args bo Q => ∃ (l : List I2) (e : Int), args = [.int .i64 e, .lp (.bor 0) 0] ∧ bo = [⟨27, [.fs (vwI2.ls l)], false⟩] ∧ l.length ≤ 1000000000000 ∧ Q (.bool (l.any fun r => chkF r == e)) [⟨27, [.fs (vwI2.ls l)], false⟩] []
def FindPT : PT := fun args bo Q => ∃ (l : List I2) (c : Int), args = [.fs (vwI2.ls l), .int .i64 c] ∧ bo = [] ∧ l.length ≤ 1000000000000 ∧ Q (.tup [.int .i64 (findF l c).1, .bool (findF l c).2]) [] []
def ValidatePT : PT := fun args bo Q => ∃ l : List I2, args = [.fs (vwI2.ls l)] ∧ bo = [] ∧ l.length ≤ 1000000000000 ∧ Q (.int .i64 (valF l)) [] []
def RInPT : PT := fun args bo Q => ∃ r : I2, args = [r.v] ∧ bo = [] ∧ Q (.bool (decide ((dscF r.x).1.x ≤ r.y) && decide (r.y ≤ (dscF r.x).1.y))) [] []
def RValidatePT : PT := fun args bo Q => ∃ l : List I2, args = [.fs (vwI2.ls l)] ∧ bo = [] ∧ l.length ≤ 1000000000000 ∧ Q (.int .i64 (valF l)) [] []
def IntsPT : PT := fun args bo Q => ∃ a b : List Int, args = [.fs (vwInt.ls a), .fs (vwInt.ls b)] ∧ bo = [] ∧ a.length ≤ 1000000000000 ∧ Q (.bool (decide (a = b))) [] []
end Go.Proofs.YtbnglnpgkcjlhaaDoor
