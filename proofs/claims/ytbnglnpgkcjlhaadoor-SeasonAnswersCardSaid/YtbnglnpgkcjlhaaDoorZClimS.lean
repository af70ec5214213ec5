/- What the functions of the part 'Clim' ask. -/
import Derived.Test.YtbnglnpgkcjlhaaDoorWh
import Derived.Test.YtbnglnpgkcjlhaaDoorZKeepS
import Derived.Test.YtbnglnpgkcjlhaaDoorZElemS
import Derived.Test.YtbnglnpgkcjlhaaDoorZPlaceS
import Derived.Test.YtbnglnpgkcjlhaaDoorZRef02S
import Derived.Test.YtbnglnpgkcjlhaaDoorZClockS
set_option linter.unusedVariables false
namespace Go.Proofs.YtbnglnpgkcjlhaaDoor
open Go Go.Vi
set_option maxRecDepth 100000
def climV (l : List Nrm) : V := .agg [.fs (vwNrm.ls l)]
def pN (f : FuncId) (n : Nrm) : Bool := if f = 62 then !exI n.el else !valN n
def IsNaNPT : PT := fun args bo Q => ∃ x : Int, args = [.int .i64 x] ∧ bo = [] ∧ Q (.bool false) [] []
def CmpIPT : PT := fun args bo Q => ∃ x y : Int, args = [.int .i64 x, .int .i64 y] ∧ bo = [] ∧ Q (.int .i64 (cmpI x y)) [] []
def CmpOrPT : PT := fun args bo Q => ∃ l : List Int, args = [.fs (vwInt.ls l)] ∧ bo = [] ∧ l.length ≤ 1000000000000 ∧ Q (.int .i64 (orF l)) [] []
def CmpNPT : PT := fun args bo Q => ∃ a b : Nrm, args = [a.v, b.v] ∧ bo = [] ∧ Q (.int .i64 (cmpN a b)) [] []
def ExistsPT : PT := fun args bo Q => ∃ c : Int, args = [.int .i64 c] ∧ bo = [] ∧ Q (.bool (exI c)) [] []
def ValidNPT : PT := fun args bo Q => ∃ n : Nrm, args = [n.v] ∧ bo = [] ∧ Q (.bool (valN n)) [] []
def CV1PT : PT := fun args bo Q => ∃ n : Nrm, args = [n.v] ∧ bo = [] ∧ Q (.bool (!exI n.el)) [] []
def CV2PT : PT := fun args bo Q => ∃ n : Nrm, args = [n.v] ∧ bo = [] ∧ Q (.bool (!valN n)) [] []
def IdxNPT : PT := fun args bo Q => ∃ (l : List Nrm) (f : FuncId), (f = 62 ∨ f = 64) ∧ args = [.fs (vwNrm.ls l), .fn f []] ∧ bo = [] ∧ l.length ≤ 1000000000000 ∧ Q (.int .i64 (idxG (pN f) l)) [] []
def HasNPT : PT := fun args bo Q => ∃ (l : List Nrm) (f : FuncId), (f = 62 ∨ f = 64) ∧ args = [.fs (vwNrm.ls l), .fn f []] ∧ bo = [] ∧ l.length ≤ 1000000000000 ∧ Q (.bool (l.any (pN f))) [] []
def CValidatePT : PT := fun args bo Q => ∃ l : List Nrm, args = [climV l] ∧ bo = [] ∧ l.length ≤ 1000000000000 ∧ Q (.int .i64 (cvF l)) [] []
def BinNPT : PT := fun args bo Q => ∃ (l : List Nrm) (t : Nrm), args = [.fs (vwNrm.ls l), t.v, .fn 56 []] ∧ bo = [] ∧ l.length ≤ 1000000000000 ∧ Cuts (fun a => cmpN a t) l ∧ ∀ i : Nat, Cut (fun a => cmpN a t) l i → Q (.tup [.int .i64 i, .bool (hitG (fun a => cmpN a t) l i)]) [] []
def CLookupPT : PT := fun args bo Q => ∃ (l : List Nrm) (c : Int) (p : Pl) (t : Int), args = [climV l, .int .i64 c, p.v, .int .i64 t] ∧ bo = [] ∧ l.length ≤ 1000000000000 ∧ Q (.tup [(lookF l c p t).1.v, .int .i64 (lookF l c p t).2]) [] []
def RLessPT : PT := fun args bo Q => ∃ a b : Nrm, args = [a.v, b.v] ∧ bo = [] ∧ Q (.bool (decide (ltN a b))) [] []
def RCValidatePT : PT := fun args bo Q => ∃ l : List Nrm, args = [climV l] ∧ bo = [] ∧ l.length ≤ 1000000000000 ∧ Q (.int .i64 (cvF l)) [] []
def RLookupPT : PT := fun args bo Q => ∃ (l : List Nrm) (c : Int) (p : Pl) (t : Int), args = [climV l, .int .i64 c, p.v, .int .i64 t] ∧ bo = [] ∧ l.length ≤ 1000000000000 ∧ Q (.tup [(lookF l c p t).1.v, .int .i64 (lookF l c p t).2]) [] []
end Go.Proofs.YtbnglnpgkcjlhaaDoor
