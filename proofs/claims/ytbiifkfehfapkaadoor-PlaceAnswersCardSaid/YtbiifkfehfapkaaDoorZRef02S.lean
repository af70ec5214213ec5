/- What the functions of the part 'Ref02' ask. -/
import Derived.Test.YtbiifkfehfapkaaDoorZPlaceS
set_option linter.unusedVariables false
namespace Go.Proofs.YtbiifkfehfapkaaDoor
open Go Go.Vi
set_option maxRecDepth 100000
abbrev arr8 (c : Nat → Int) : Ob := ⟨65, [.int .u8 (c 0), .int .u8 (c 1), .int .u8 (c 2), .int .u8 (c 3), .int .u8 (c 4), .int .u8 (c 5), .int .u8 (c 6), .int .u8 (c 7)], false⟩
def digA : Fin 3 → V
  | 0 => .sl (.bor 0) 0 2 5 false
  | 1 => .sl (.bor 0) 2 3 5 false
  | 2 => .sl (.bor 0) 5 3 5 true
def putD : Fin 3 → (Nat → Int) → Int → Nat → Int
  | 0, c, x => fun j => if j = 0 then dgI x 1 else if j = 1 then dgI x 0 else c j
  | 1, c, x => fun j => if j = 2 then dgI x 2 else if j = 3 then dgI x 1 else if j = 4 then dgI x 0 else c j
  | 2, c, x => fun j => if j = 5 then dgI x 2 else if j = 6 then dgI x 1 else if j = 7 then dgI x 0 else c j
def AcrossPT : PT := fun args bo Q => ∃ n k : Int, args = [.int .i64 n, .int .i64 k] ∧ bo = [] ∧ Q (.tup [.int .i64 (acrF n k).1, .int .i64 (acrF n k).2]) [] []
def DigitsPT : PT := fun args bo Q => ∃ (c : Nat → Int) (x : Int) (o : Fin 3), args = [digA o, .int .i64 x] ∧ bo = [arr8 c] ∧ 0 ≤ x ∧ x ≤ 1000 ∧ Q (.tup []) [arr8 (putD o c x)] []
def FormatPT : PT := fun args bo Q => ∃ p : Pl, args = [p.v] ∧ bo = [] ∧ Q (.tup [.str (fmtF p).1, .int .i64 (fmtF p).2]) [] []
def ParsePT : PT := fun args bo Q => ∃ s : ByteArray, args = [.str s] ∧ bo = [] ∧ Q (.tup [(prsF s).1.v, .int .i64 (prsF s).2]) [] []
def RValidPT : PT := fun args bo Q => ∃ p : Pl, args = [p.v] ∧ bo = [] ∧ Q (.bool (okP p)) [] []
def RCornersPT : PT := fun args bo Q => ∃ n : Int, args = [.int .i64 n] ∧ bo = [] ∧ Q (.tup [(cornF n).1.v, .int .i64 (cornF n).2]) [] []
def RWeightsPT : PT := fun args bo Q => ∃ p : Pl, args = [p.v] ∧ bo = [] ∧ okP p = true ∧ Q (wv (wt p)) [] []
def ROnPT : PT := fun args bo Q => ∃ (n : Int) (g : Nat → Int), args = [.int .i64 n, wv g] ∧ bo = [] ∧ okF n = true ∧ (∀ j, 0 ≤ g j ∧ g j ≤ 840) ∧ Q (.tup [(onP n g).v, .bool (g (corI n).x.toNat + g (corI n).y.toNat + g (corI n).z.toNat == 840)]) [] []
def RAddressesPT : PT := fun args bo Q => ∃ p : Pl, args = [p.v] ∧ bo = [] ∧ Q (.tup [.fs (vwPl.ls (addrF p).1), .int .i64 (addrF p).2]) [] []
def RNormalPT : PT := fun args bo Q => ∃ p : Pl, args = [p.v] ∧ bo = [] ∧ Q (.tup [(nrmF p).1.v, .int .i64 (nrmF p).2]) [] []
def RSamePT : PT := fun args bo Q => ∃ p q : Pl, args = [p.v, q.v] ∧ bo = [] ∧ Q (.bool (sameF p q)) [] []
def RDigitsPT : PT := fun args bo Q => ∃ x : Int, bo = [] ∧ 0 ≤ x ∧ x ≤ 1000 ∧ ((args = [.int .i64 x, .int .i64 2] ∧ Q (.str ⟨#[dgB x 1, dgB x 0]⟩) [] []) ∨ (args = [.int .i64 x, .int .i64 3] ∧ Q (.str ⟨#[dgB x 2, dgB x 1, dgB x 0]⟩) [] []))
def RFormatPT : PT := fun args bo Q => ∃ p : Pl, args = [p.v] ∧ bo = [] ∧ Q (.tup [.str (fmtF p).1, .int .i64 (fmtF p).2]) [] []
def RNumberPT : PT := fun args bo Q => bo = [] ∧ ((∃ a b : UInt8, isDg a = true ∧ isDg b = true ∧ args = [.str ⟨#[a, b]⟩] ∧ Q (.int .i64 (num2 a b)) [] []) ∨ (∃ a b c : UInt8, isDg a = true ∧ isDg b = true ∧ isDg c = true ∧ args = [.str ⟨#[a, b, c]⟩] ∧ Q (.int .i64 (num3 a b c)) [] []))
def RParsePT : PT := fun args bo Q => ∃ s : ByteArray, args = [.str s] ∧ bo = [] ∧ Q (.tup [(prsF s).1.v, .int .i64 (prsF s).2]) [] []
def RAcrossPT : PT := fun args bo Q => ∃ n k : Int, args = [.int .i64 n, .int .i64 k] ∧ bo = [] ∧ Q (.tup [.int .i64 (acrF n k).1, .int .i64 (acrF n k).2]) [] []
end Go.Proofs.YtbiifkfehfapkaaDoor
