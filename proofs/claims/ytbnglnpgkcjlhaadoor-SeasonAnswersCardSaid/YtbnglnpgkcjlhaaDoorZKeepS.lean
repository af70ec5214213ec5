/- What the functions of the part 'Keep' ask. -/
import Derived.Test.YtbnglnpgkcjlhaaDoorZBFrame
set_option linter.unusedVariables false
namespace Go.Proofs.YtbnglnpgkcjlhaaDoor
open Go Go.Vi
set_option maxRecDepth 100000
abbrev src : V := .lp (.bor 0) 0
def ModPT : PT := fun args bo Q => ∃ x n : Int, args = [.int .i64 x, .int .i64 n] ∧ bo = [] ∧ inR x ∧ inR n ∧ Q (.int .i64 (if n < 1 then 0 else x % n)) [] []
def NewPT : PT := fun args bo Q => ∃ l : List Int, args = [.fs (vwInt.ls l)] ∧ bo = [] ∧ (∀ x ∈ l, inR x) ∧ ∀ r : Rdr, r.ok → Q (.lp (.ret 0) 0) [] [rob r]
def RawPT : PT := fun args bo Q => ∃ r : Rdr, args = [src] ∧ bo = [rob r] ∧ r.ok ∧ ∀ (v : Int) (r' : Rdr), r'.ok → inR v → Q (.int .i64 v) [rob r'] []
def NPT : PT := fun args bo Q => ∃ (r : Rdr) (n : Int), args = [src, .int .i64 n] ∧ bo = [rob r] ∧ r.ok ∧ 1 ≤ n ∧ inR n ∧ ∀ (v : Int) (r' : Rdr), r'.ok → 0 ≤ v → v < n → Q (.int .i64 v) [rob r'] []
def RangePT : PT := fun args bo Q => ∃ (r : Rdr) (a b : Int), args = [src, .int .i64 a, .int .i64 b] ∧ bo = [rob r] ∧ r.ok ∧ -1000000000000 ≤ a ∧ a ≤ b ∧ b ≤ 1000000000000 ∧ ∀ (v : Int) (r' : Rdr), r'.ok → a ≤ v → v ≤ b → Q (.int .i64 v) [rob r'] []
end Go.Proofs.YtbnglnpgkcjlhaaDoor
