/- What the functions of the part 'Law15L' ask. -/
import Derived.Test.YtbnglnpgkcjlhaaDoorWh
import Derived.Test.YtbnglnpgkcjlhaaDoorZLaw15S
set_option linter.unusedVariables false
namespace Go.Proofs.YtbnglnpgkcjlhaaDoor
open Go Go.Vi
set_option maxRecDepth 100000
def SLearnedPT : PT := fun args bo Q => ∃ (l : List Int), args = [.fs (vwInt.ls l)] ∧ bo = [] ∧ (∀ x ∈ l, inR x) ∧ Q (.bool true) [] []
end Go.Proofs.YtbnglnpgkcjlhaaDoor
