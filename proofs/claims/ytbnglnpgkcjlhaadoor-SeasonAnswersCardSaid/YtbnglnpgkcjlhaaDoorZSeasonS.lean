/- What the functions of the part 'Season' ask. -/
import Derived.Test.YtbnglnpgkcjlhaaDoorZClimS
set_option linter.unusedVariables false
namespace Go.Proofs.YtbnglnpgkcjlhaaDoor
open Go Go.Vi
set_option maxRecDepth 100000
def RFindPT : PT := fun args bo Q => ∃ (l : List I2) (c : Int), args = [.fs (vwI2.ls l), .int .i64 c] ∧ bo = [] ∧ l.length ≤ 1000000000000 ∧ Q (.tup [.int .i64 (findF l c).1, .bool (findF l c).2]) [] []
def ExaminePT : PT := fun args bo Q => ∃ (c : List Nrm) (r : Rep), args = [climV c, r.v] ∧ bo = [] ∧ c.length ≤ 1000000000000 ∧ r.rd.length ≤ 1000000000000 ∧ Q (.int .i64 (seaE c r)) [] []
def SCheckPT : PT := fun args bo Q => ∃ (c : List Nrm) (r : Rep), args = [climV c, r.v] ∧ bo = [] ∧ c.length ≤ 1000000000000 ∧ r.rd.length ≤ 1000000000000 ∧ Q (.tup [.fs (vwInt.ls (seaL c r)), .int .i64 (seaE c r)]) [] []
def RSCheckPT : PT := fun args bo Q => ∃ (c : List Nrm) (r : Rep), args = [climV c, r.v] ∧ bo = [] ∧ c.length ≤ 1000000000000 ∧ r.rd.length ≤ 1000000000000 ∧ Q (.tup [.fs (vwInt.ls (seaL c r)), .int .i64 (seaE c r)]) [] []
def SFarPT : PT := fun args bo Q => ∃ (c : List Nrm) (r : Rep) (k : Int), args = [climV c, r.v, .int .i64 k] ∧ bo = [] ∧ c.length ≤ 1000000000000 ∧ r.rd.length ≤ 1000000000000 ∧ Q (.tup [.int .i64 (farF c r k).1, .bool (farF c r k).2]) [] []
def RSFarPT : PT := fun args bo Q => ∃ (c : List Nrm) (r : Rep) (k : Int), args = [climV c, r.v, .int .i64 k] ∧ bo = [] ∧ c.length ≤ 1000000000000 ∧ r.rd.length ≤ 1000000000000 ∧ Q (.tup [.int .i64 (farF c r k).1, .bool (farF c r k).2]) [] []
end Go.Proofs.YtbnglnpgkcjlhaaDoor
