/- What the functions of the part 'Learn' ask. -/
import Derived.Test.YtbnglnpgkcjlhaaDoorWh
import Derived.Test.YtbnglnpgkcjlhaaDoorZGenS
set_option linter.unusedVariables false
namespace Go.Proofs.YtbnglnpgkcjlhaaDoor
open Go Go.Vi
set_option maxRecDepth 100000
abbrev clO (c : List Nrm) : Ob := ⟨24, [.sl (.own 134 0) 0 c.length 43 false], false⟩
abbrev nmO (c : List Nrm) : Ob := ⟨43, vwNrm.fl c, false⟩
abbrev lO (c : List Nrm) : List (Vi.Id × Bool × Ob) := [(.own 7 0, false, clO c), (.own 134 0, true, nmO c)]
def LearnPT : PT := fun args bo Q => ∃ (l : List Rep), args = [.fs (vwRep.ls l)] ∧ bo = [] ∧ (∀ r ∈ l, PlOk r) ∧ l.length ≤ 9 ∧ ∀ (c : List Nrm), LrnOk l c → Q (.tup [.agg [.sl (.ret 0) 0 c.length 43 false], .int .i64 0]) [] [nmO c]
def DClimatePT : PT := fun args bo Q => ∃ (r : Rdr) (m : Int), args = [src, .int .i64 m] ∧ bo = [rob r] ∧ r.ok ∧ -1000000000000 ≤ m ∧ m ≤ 1000000000000 ∧ ∀ (c : List Nrm) (r' : Rdr), r'.ok → CliOk c → (∀ n ∈ c, n.sp ≤ 12000) → Q (climV c) [rob r'] []
def KInPT : PT := fun args bo Q => ∃ (l : List Int) (x : Int), args = [.fs (vwInt.ls l), .int .i64 x] ∧ bo = [] ∧ l.length ≤ 1000000000000 ∧ Q (.bool (l.contains x)) [] []
end Go.Proofs.YtbnglnpgkcjlhaaDoor
