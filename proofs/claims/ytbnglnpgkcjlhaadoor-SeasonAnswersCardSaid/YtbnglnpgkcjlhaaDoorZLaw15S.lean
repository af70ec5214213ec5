/- What the functions of the part 'Law15' ask. -/
import Derived.Test.YtbnglnpgkcjlhaaDoorWi
import Derived.Test.YtbnglnpgkcjlhaaDoorZLearnS
set_option linter.unusedVariables false
namespace Go.Proofs.YtbnglnpgkcjlhaaDoor
open Go Go.Vi
set_option maxRecDepth 100000
def Awake15PT : PT := fun args bo Q => args = [] ∧ bo = [] ∧ Q (.bool true) [] []
def SNonePT : PT := fun args bo Q => ∃ (l : List Int), args = [.fs (vwInt.ls l)] ∧ bo = [] ∧ (∀ x ∈ l, inR x) ∧ Q (.bool true) [] []
def SWiderPT : PT := fun args bo Q => ∃ (l : List Int), args = [.fs (vwInt.ls l)] ∧ bo = [] ∧ (∀ x ∈ l, inR x) ∧ Q (.bool true) [] []
end Go.Proofs.YtbnglnpgkcjlhaaDoor
