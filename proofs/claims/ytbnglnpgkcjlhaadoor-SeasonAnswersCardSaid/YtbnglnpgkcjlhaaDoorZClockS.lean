/- What the functions of the part 'Clock' ask. -/
import Derived.Test.YtbnglnpgkcjlhaaDoorZBFrame
import Derived.Test.YtbnglnpgkcjlhaaDoorWh
set_option linter.unusedVariables false
namespace Go.Proofs.YtbnglnpgkcjlhaaDoor
open Go Go.Vi
set_option maxRecDepth 100000
abbrev civ (y m d h i : Int) : Ob := ⟨69, [.int .i64 y, .int .i64 m, .int .i64 d, .int .i64 h, .int .i64 i], false⟩
def CInPT : PT := fun args bo Q => ∃ t : Int, args = [.int .i64 t] ∧ bo = [] ∧ Q (.bool (datE t == 0)) [] []
def CFirstPT : PT := fun args bo Q => ∃ y : Int, args = [.int .i64 y] ∧ bo = [] ∧ 2000 ≤ y ∧ y ≤ 3000 ∧ Q (.int .i64 (1440 * yrD y)) [] []
def CLengthsPT : PT := fun args bo Q => ∃ y : Int, args = [.int .i64 y] ∧ bo = [] ∧ 2000 ≤ y ∧ y ≤ 3000 ∧ Q (.agg [.int .i64 31, .int .i64 (feb y), .int .i64 31, .int .i64 30, .int .i64 31, .int .i64 30, .int .i64 31, .int .i64 31, .int .i64 30, .int .i64 31, .int .i64 30, .int .i64 31]) [] []
def CDatePT : PT := fun args bo Q => ∃ t : Int, args = [.int .i64 t] ∧ bo = [] ∧ ∀ y d h i : Int, Q (.tup [.agg [.int .i64 y, .int .i64 (monF t), .int .i64 d, .int .i64 h, .int .i64 i], .int .i64 (datE t)]) [] []
def RIn1PT : PT := fun args bo Q => ∃ t : Int, args = [.int .i64 t] ∧ bo = [] ∧ Q (.bool (datE t == 0)) [] []
def RDaysPT : PT := fun args bo Q => ∃ y m : Int, args = [.int .i64 y, .int .i64 m] ∧ bo = [] ∧ 2000 ≤ y ∧ y ≤ 2099 ∧ 1 ≤ m ∧ m ≤ 12 ∧ Q (.int .i64 (dysF y m)) [] []
def RBeforePT : PT := fun args bo Q => ∃ y m : Int, args = [.int .i64 y, .int .i64 m] ∧ bo = [] ∧ 2000 ≤ y ∧ y ≤ 2099 ∧ 1 ≤ m ∧ m ≤ 12 ∧ Q (.int .i64 (befF y m)) [] []
def RDatePT : PT := fun args bo Q => ∃ t : Int, args = [.int .i64 t] ∧ bo = [] ∧ ∀ y d h i : Int, Q (.tup [.agg [.int .i64 y, .int .i64 (monF t), .int .i64 d, .int .i64 h, .int .i64 i], .int .i64 (datE t)]) [] []
end Go.Proofs.YtbnglnpgkcjlhaaDoor
