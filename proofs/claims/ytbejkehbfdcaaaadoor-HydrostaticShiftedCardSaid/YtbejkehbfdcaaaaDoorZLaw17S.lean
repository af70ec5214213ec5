/- What the functions of the part 'Law17' ask. -/
import Derived.Test.YtbejkehbfdcaaaaDoorWg
import Derived.Test.YtbejkehbfdcaaaaDoorZKeepS
import Derived.Test.YtbejkehbfdcaaaaDoorZElemS
import Derived.Test.YtbejkehbfdcaaaaDoorZHydroS
set_option linter.unusedVariables false
namespace Go.Proofs.YtbejkehbfdcaaaaDoor
open Go Go.Vi
set_option maxRecDepth 100000
abbrev sixOb (a b c d e f : Int) : Ob := ⟨32, [.int .i64 6, .int .i64 a, .int .i64 7, .int .i64 b, .int .i64 8, .int .i64 c, .int .i64 9, .int .i64 d, .int .i64 10, .int .i64 e, .int .i64 11, .int .i64 f], false⟩
abbrev sixV : V := .sl (.ret 0) 0 6 32 true
def SixPT : PT := fun args bo Q => ∃ a b c d e f : Int, args = [.int .i64 a, .int .i64 b, .int .i64 c, .int .i64 d, .int .i64 e, .int .i64 f] ∧ bo = [] ∧ Q sixV [] [sixOb a b c d e f]
def FittingPT : PT := fun args bo Q => ∃ r : Rdr, args = [src] ∧ bo = [rob r] ∧ r.ok ∧ ∀ (t8 t7 t5 h8 : Int) (r' : Rdr), r'.ok → 2500 ≤ t8 → t8 ≤ 3000 → 2450 ≤ t7 → t7 ≤ 2850 → 2200 ≤ t5 → t5 ≤ 2600 → 1200 ≤ h8 → h8 ≤ 1500 → Q sixV [rob r'] [sixOb h8 t8 (h7F h8 t8 t7) t7 (h5F (h7F h8 t8 t7) t7 t5) t5]
def AwakePT : PT := fun args bo Q => args = [] ∧ bo = [] ∧ Q (.bool true) [] []
def FindsPT : PT := fun args bo Q => ∃ (l : List Int) (y : Int) (w : Bool), args = [.fs (vwInt.ls l), .int .i64 y, .bool w] ∧ bo = [] ∧ (∀ x ∈ l, inR x) ∧ inR y ∧ Q (.bool true) [] []
def EndsPT : PT := fun args bo Q => ∃ (l : List Int) (y : Int) (w : Bool), args = [.fs (vwInt.ls l), .int .i64 y, .bool w] ∧ bo = [] ∧ (∀ x ∈ l, inR x) ∧ inR y ∧ Q (.bool true) [] []
def WiderPT : PT := fun args bo Q => ∃ (l : List Int), args = [.fs (vwInt.ls l)] ∧ bo = [] ∧ (∀ x ∈ l, inR x) ∧ Q (.bool true) [] []
def ShiftedPT : PT := fun args bo Q => ∃ (l : List Int) (y : Int), args = [.fs (vwInt.ls l), .int .i64 y] ∧ bo = [] ∧ (∀ x ∈ l, inR x) ∧ inR y ∧ Q (.bool true) [] []
end Go.Proofs.YtbejkehbfdcaaaaDoor
