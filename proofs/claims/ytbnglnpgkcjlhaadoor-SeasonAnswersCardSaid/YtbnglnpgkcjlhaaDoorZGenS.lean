/- What the functions of the part 'Gen' ask. -/
import Derived.Test.YtbnglnpgkcjlhaaDoorWh
import Derived.Test.YtbnglnpgkcjlhaaDoorZSeasonS
set_option linter.unusedVariables false
namespace Go.Proofs.YtbnglnpgkcjlhaaDoor
open Go Go.Vi
set_option maxRecDepth 100000
def PickPT : PT := fun args bo Q => ∃ (r : Rdr) (l : List Int), args = [src, .fs (vwInt.ls l)] ∧ bo = [rob r] ∧ r.ok ∧ 1 ≤ l.length ∧ l.length ≤ 1000000 ∧ ∀ (v : Int) (r' : Rdr), r'.ok → v ∈ l → Q (.int .i64 v) [rob r'] []
def TextPT : PT := fun args bo Q => ∃ (r : Rdr) (l : List ByteArray), args = [src, .fs (vwStr.ls l)] ∧ bo = [rob r] ∧ r.ok ∧ 1 ≤ l.length ∧ l.length ≤ 1000000 ∧ ∀ (v : ByteArray) (r' : Rdr), r'.ok → v ∈ l → Q (.str v) [rob r'] []
def NamePT : PT := fun args bo Q => ∃ (r : Rdr), args = [src] ∧ bo = [rob r] ∧ r.ok ∧ ∀ (v : ByteArray) (r' : Rdr), r'.ok → v ∈ nameL → Q (.str v) [rob r'] []
def MinutePT : PT := fun args bo Q => ∃ (r : Rdr), args = [src] ∧ bo = [rob r] ∧ r.ok ∧ ∀ (v : Int) (r' : Rdr), r'.ok → 0 ≤ v → v ≤ 52595999 → Q (.int .i64 v) [rob r'] []
def NearPT : PT := fun args bo Q => ∃ (r : Rdr) (m : Int), args = [src, .int .i64 m] ∧ bo = [rob r] ∧ r.ok ∧ -1000000000000 ≤ m ∧ m ≤ 1000000000000 ∧ ∀ (v : Int) (r' : Rdr), r'.ok → 0 ≤ v → v ≤ 52595999 → Q (.int .i64 v) [rob r'] []
def DPlacePT : PT := fun args bo Q => ∃ (r : Rdr), args = [src] ∧ bo = [rob r] ∧ r.ok ∧ ∀ (p : Pl) (r' : Rdr), r'.ok → isNF p = true → Q p.v [rob r'] []
def RSomePT : PT := fun args bo Q => ∃ (r : Rdr) (c : Int), args = [src, .int .i64 c] ∧ bo = [rob r] ∧ r.ok ∧ 1 ≤ c ∧ c ≤ 11 ∧ ∀ (x : I2) (r' : Rdr), r'.ok → x.x = c → chkF x = 0 → Q x.v [rob r'] []
def RListPT : PT := fun args bo Q => ∃ (r : Rdr), args = [src] ∧ bo = [rob r] ∧ r.ok ∧ ∀ (l : List I2) (r' : Rdr), r'.ok → valF l = 0 → l.length ≤ 11 → Q (.fs (vwI2.ls l)) [rob r'] []
def ReportPT : PT := fun args bo Q => ∃ (r : Rdr) (m : Int), args = [src, .int .i64 m] ∧ bo = [rob r] ∧ r.ok ∧ -1000000000000 ≤ m ∧ m ≤ 1000000000000 ∧ ∀ (x : Rep) (r' : Rdr), r'.ok → RepOk x → Q x.v [rob r'] []
def BentPT : PT := fun args bo Q => ∃ (r : Rdr) (x : Rep), args = [src, x.v] ∧ bo = [rob r] ∧ r.ok ∧ x.rd.length ≤ 1000000 ∧ -1000000000000 ≤ x.pl.c ∧ x.pl.c ≤ 1000000000000 ∧ ∀ (y : Rep) (r' : Rdr), r'.ok → y.rd.length ≤ x.rd.length + 1 → Q y.v [rob r'] []
def SmallPT : PT := fun args bo Q => ∃ x : Rep, args = [x.v] ∧ bo = [] ∧ Q (.bool (decide (x.name.size ≤ 40) && decide (x.rd.length ≤ 40))) [] []
def PlacedPT : PT := fun args bo Q => ∃ (r : Rdr) (n m : Int), args = [src, .int .i64 n, .int .i64 m] ∧ bo = [rob r] ∧ r.ok ∧ 0 ≤ n ∧ n ≤ 9 ∧ -1000000000000 ≤ m ∧ m ≤ 1000000000000 ∧ ∀ (l : List Rep) (r' : Rdr), r'.ok → (∀ x ∈ l, PlOk x) → l.length ≤ 9 → Q (.fs (vwRep.ls l)) [rob r'] []
def FloorPT : PT := fun args bo Q => ∃ a b : Int, args = [.int .i64 a, .int .i64 b] ∧ bo = [] ∧ 1 ≤ b ∧ b ≤ 1000000000 ∧ -1000000000000 ≤ a ∧ a ≤ 1000000000000 ∧ Q (.int .i64 (a / b)) [] []
end Go.Proofs.YtbnglnpgkcjlhaaDoor
