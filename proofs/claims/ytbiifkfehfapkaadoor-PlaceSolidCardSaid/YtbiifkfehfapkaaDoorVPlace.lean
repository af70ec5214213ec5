/- Summaries of the small functions of place: face, Valid, of, on, Corners. -/
import Derived.Test.YtbiifkfehfapkaaDoorVMod
import Derived.Test.YtbiifkfehfapkaaDoorVi25
namespace Go.Proofs.YtbiifkfehfapkaaDoor
open Go Go.Vi
set_option maxRecDepth 100000
set_option maxHeartbeats 4000000

theorem twenty {n : Int} (h1 : 0 ≤ n) (h2 : n < 20) : n = 0 ∨ n = 1 ∨ n = 2 ∨ n = 3 ∨ n = 4 ∨ n = 5 ∨ n = 6 ∨ n = 7 ∨ n = 8 ∨ n = 9 ∨ n = 10 ∨ n = 11 ∨ n = 12 ∨ n = 13 ∨ n = 14 ∨ n = 15 ∨ n = 16 ∨ n = 17 ∨ n = 18 ∨ n = 19 := by omega

def okF (f : Int) : Bool := decide (0 ≤ f ∧ f < 20)
def okP (f a b c : Int) : Bool := decide (0 ≤ f ∧ f < 20 ∧ 0 ≤ a ∧ a ≤ 840 ∧ 0 ≤ b ∧ b ≤ 840 ∧ 0 ≤ c ∧ c ≤ 840 ∧ a + b + c = 840)
def cor (f : Int) (j : Nat) : Nat := (cornersL.getD (3 * f.toNat + j) 0).toNat
def wts (f a b c : Int) : List Int := (((List.replicate 12 (0 : Int)).set (cor f 0) a).set (cor f 1) b).set (cor f 2) c

abbrev pl (f a b c : Int) : V := .agg [.int .i64 f, .int .i64 a, .int .i64 b, .int .i64 c]

def faceS : Sum'
  | [.int .i64 f], [] => some (.bool (okF f), [], [])
  | _, _ => none
def validS : Sum'
  | [.agg [.int .i64 f, .int .i64 a, .int .i64 b, .int .i64 c]], [] => some (.bool (okP f a b c), [], [])
  | _, _ => none
def ofS : Sum'
  | [.agg [.int .i64 f, .int .i64 a, .int .i64 b, .int .i64 c]], [] => if 0 ≤ f ∧ f < 20 then some (.agg ((wts f a b c).map (V.int .i64)), [], []) else none
  | _, _ => none
def onS : Sum'
  | [.int .i64 n, .agg [.int .i64 w0, .int .i64 w1, .int .i64 w2, .int .i64 w3, .int .i64 w4, .int .i64 w5, .int .i64 w6, .int .i64 w7, .int .i64 w8, .int .i64 w9, .int .i64 w10, .int .i64 w11]], [] =>
    if 0 ≤ n ∧ n < 20 then
      some (.tup [pl n ([w0, w1, w2, w3, w4, w5, w6, w7, w8, w9, w10, w11].getD (cor n 0) 0) ([w0, w1, w2, w3, w4, w5, w6, w7, w8, w9, w10, w11].getD (cor n 1) 0) ([w0, w1, w2, w3, w4, w5, w6, w7, w8, w9, w10, w11].getD (cor n 2) 0),
        .bool (okP n ([w0, w1, w2, w3, w4, w5, w6, w7, w8, w9, w10, w11].getD (cor n 0) 0) ([w0, w1, w2, w3, w4, w5, w6, w7, w8, w9, w10, w11].getD (cor n 1) 0) ([w0, w1, w2, w3, w4, w5, w6, w7, w8, w9, w10, w11].getD (cor n 2) 0))], [], [])
    else none
  | _, _ => none
def cornS : Sum'
  | [.int .i64 n], [] =>
    if 0 ≤ n ∧ n < 20 then some (.tup [.agg [.int .i64 (cor n 0), .int .i64 (cor n 1), .int .i64 (cor n 2)], .int .i64 0], [], [])
    else none
  | _, _ => none

theorem ok34 : callOk Tryd.prog 34 = true := by kernel_rfl
theorem ok27 : callOk Tryd.prog 27 = true := by kernel_rfl
theorem ok32 : callOk Tryd.prog 32 = true := by kernel_rfl
theorem ok33 : callOk Tryd.prog 33 = true := by kernel_rfl
theorem ok16 : callOk Tryd.prog 16 = true := by kernel_rfl

theorem face_0 (f : Int) : bodyA Tryd.prog E (tabO []) 20 [(6, .guard true)] 34 [.int .i64 f] [] = some ((V.bool (decide (f < 20)), [], []), [decide (f ≥ 0) = true]) := by kernel_rfl
theorem face_1 (f : Int) : bodyA Tryd.prog E (tabO []) 20 [(6, .guard false)] 34 [.int .i64 f] [] = some ((V.bool false, [], []), [decide (f ≥ 0) = false]) := by kernel_rfl
theorem face_all (f : Int) (Q : V → List Ob → List Ob → Prop)
    (k0 : (decide (f ≥ 0) = true) ∧ True → Q (V.bool (decide (f < 20))) ([]) ([]))
    (k1 : (decide (f ≥ 0) = false) ∧ True → Q (V.bool false) ([]) ([])) : ∃ r bo' ro ds cs, bodyA Tryd.prog E (tabO []) 20 ds 34 [.int .i64 f] [] = some ((r, bo', ro), cs) ∧ AllP cs ∧ Q r bo' ro := by
  cases h0 : (decide (f ≥ 0) : Bool) with
  | true =>
    exact ⟨_, _, _, _, _, face_0 f, ⟨h0, trivial⟩, k0 ⟨h0, trivial⟩⟩
  | false =>
    exact ⟨_, _, _, _, _, face_1 f, ⟨h0, trivial⟩, k1 ⟨h0, trivial⟩⟩
theorem valid_0 (f a b c : Int) : bodyA Tryd.prog E (tabO [(34, faceS)]) 20 [(18, .guard true)] 27 [pl f a b c] [] = some ((V.bool false, [], []), [decide (a < 0) = true]) := by kernel_rfl
theorem valid_1 (f a b c : Int) : bodyA Tryd.prog E (tabO [(34, faceS)]) 20 [(18, .guard false), (20, .cond true)] 27 [pl f a b c] [] = some ((V.bool false, [], []), [decide (a < 0) = false, decide (a > 840) = true]) := by kernel_rfl
theorem valid_2 (f a b c : Int) : bodyA Tryd.prog E (tabO [(34, faceS)]) 20 [(18, .guard false), (20, .cond false), (18, .guard true)] 27 [pl f a b c] [] = some ((V.bool false, [], []), [decide (a < 0) = false, decide (a > 840) = false, decide (b < 0) = true]) := by kernel_rfl
theorem valid_3 (f a b c : Int) : bodyA Tryd.prog E (tabO [(34, faceS)]) 20 [(18, .guard false), (20, .cond false), (18, .guard false), (20, .cond true)] 27 [pl f a b c] [] = some ((V.bool false, [], []), [decide (a < 0) = false, decide (a > 840) = false, decide (b < 0) = false, decide (b > 840) = true]) := by kernel_rfl
theorem valid_4 (f a b c : Int) : bodyA Tryd.prog E (tabO [(34, faceS)]) 20 [(18, .guard false), (20, .cond false), (18, .guard false), (20, .cond false), (18, .guard true)] 27 [pl f a b c] [] = some ((V.bool false, [], []), [decide (a < 0) = false, decide (a > 840) = false, decide (b < 0) = false, decide (b > 840) = false, decide (c < 0) = true]) := by kernel_rfl
theorem valid_5 (f a b c : Int) : bodyA Tryd.prog E (tabO [(34, faceS)]) 20 [(18, .guard false), (20, .cond false), (18, .guard false), (20, .cond false), (18, .guard false), (20, .cond true)] 27 [pl f a b c] [] = some ((V.bool false, [], []), [decide (a < 0) = false, decide (a > 840) = false, decide (b < 0) = false, decide (b > 840) = false, decide (c < 0) = false, decide (c > 840) = true]) := by kernel_rfl
theorem valid_6 (f a b c : Int) : bodyA Tryd.prog E (tabO [(34, faceS)]) 20 [(18, .guard false), (20, .cond false), (18, .guard false), (20, .cond false), (18, .guard false), (20, .cond false), (26, .guard true)] 27 [pl f a b c] [] = some ((V.bool (IntKind.i64.wrap (IntKind.i64.wrap (a + b) + c) == 840), [], []), [decide (a < 0) = false, decide (a > 840) = false, decide (b < 0) = false, decide (b > 840) = false, decide (c < 0) = false, decide (c > 840) = false, okF f = true]) := by kernel_rfl
theorem valid_7 (f a b c : Int) : bodyA Tryd.prog E (tabO [(34, faceS)]) 20 [(18, .guard false), (20, .cond false), (18, .guard false), (20, .cond false), (18, .guard false), (20, .cond false), (26, .guard false)] 27 [pl f a b c] [] = some ((V.bool false, [], []), [decide (a < 0) = false, decide (a > 840) = false, decide (b < 0) = false, decide (b > 840) = false, decide (c < 0) = false, decide (c > 840) = false, okF f = false]) := by kernel_rfl
theorem valid_all (f a b c : Int) (Q : V → List Ob → List Ob → Prop)
    (k0 : (decide (a < 0) = true) ∧ True → Q (V.bool false) ([]) ([]))
    (k1 : (decide (a < 0) = false) ∧ (decide (a > 840) = true) ∧ True → Q (V.bool false) ([]) ([]))
    (k2 : (decide (a < 0) = false) ∧ (decide (a > 840) = false) ∧ (decide (b < 0) = true) ∧ True → Q (V.bool false) ([]) ([]))
    (k3 : (decide (a < 0) = false) ∧ (decide (a > 840) = false) ∧ (decide (b < 0) = false) ∧ (decide (b > 840) = true) ∧ True → Q (V.bool false) ([]) ([]))
    (k4 : (decide (a < 0) = false) ∧ (decide (a > 840) = false) ∧ (decide (b < 0) = false) ∧ (decide (b > 840) = false) ∧ (decide (c < 0) = true) ∧ True → Q (V.bool false) ([]) ([]))
    (k5 : (decide (a < 0) = false) ∧ (decide (a > 840) = false) ∧ (decide (b < 0) = false) ∧ (decide (b > 840) = false) ∧ (decide (c < 0) = false) ∧ (decide (c > 840) = true) ∧ True → Q (V.bool false) ([]) ([]))
    (k6 : (decide (a < 0) = false) ∧ (decide (a > 840) = false) ∧ (decide (b < 0) = false) ∧ (decide (b > 840) = false) ∧ (decide (c < 0) = false) ∧ (decide (c > 840) = false) ∧ (okF f = true) ∧ True → Q (V.bool (IntKind.i64.wrap (IntKind.i64.wrap (a + b) + c) == 840)) ([]) ([]))
    (k7 : (decide (a < 0) = false) ∧ (decide (a > 840) = false) ∧ (decide (b < 0) = false) ∧ (decide (b > 840) = false) ∧ (decide (c < 0) = false) ∧ (decide (c > 840) = false) ∧ (okF f = false) ∧ True → Q (V.bool false) ([]) ([])) : ∃ r bo' ro ds cs, bodyA Tryd.prog E (tabO [(34, faceS)]) 20 ds 27 [pl f a b c] [] = some ((r, bo', ro), cs) ∧ AllP cs ∧ Q r bo' ro := by
  cases h0 : (decide (a < 0) : Bool) with
  | true =>
    exact ⟨_, _, _, _, _, valid_0 f a b c, ⟨h0, trivial⟩, k0 ⟨h0, trivial⟩⟩
  | false =>
    cases h1 : (decide (a > 840) : Bool) with
    | true =>
      exact ⟨_, _, _, _, _, valid_1 f a b c, ⟨h0, h1, trivial⟩, k1 ⟨h0, h1, trivial⟩⟩
    | false =>
      cases h2 : (decide (b < 0) : Bool) with
      | true =>
        exact ⟨_, _, _, _, _, valid_2 f a b c, ⟨h0, h1, h2, trivial⟩, k2 ⟨h0, h1, h2, trivial⟩⟩
      | false =>
        cases h3 : (decide (b > 840) : Bool) with
        | true =>
          exact ⟨_, _, _, _, _, valid_3 f a b c, ⟨h0, h1, h2, h3, trivial⟩, k3 ⟨h0, h1, h2, h3, trivial⟩⟩
        | false =>
          cases h4 : (decide (c < 0) : Bool) with
          | true =>
            exact ⟨_, _, _, _, _, valid_4 f a b c, ⟨h0, h1, h2, h3, h4, trivial⟩, k4 ⟨h0, h1, h2, h3, h4, trivial⟩⟩
          | false =>
            cases h5 : (decide (c > 840) : Bool) with
            | true =>
              exact ⟨_, _, _, _, _, valid_5 f a b c, ⟨h0, h1, h2, h3, h4, h5, trivial⟩, k5 ⟨h0, h1, h2, h3, h4, h5, trivial⟩⟩
            | false =>
              cases h6 : (okF f : Bool) with
              | true =>
                exact ⟨_, _, _, _, _, valid_6 f a b c, ⟨h0, h1, h2, h3, h4, h5, h6, trivial⟩, k6 ⟨h0, h1, h2, h3, h4, h5, h6, trivial⟩⟩
              | false =>
                exact ⟨_, _, _, _, _, valid_7 f a b c, ⟨h0, h1, h2, h3, h4, h5, h6, trivial⟩, k7 ⟨h0, h1, h2, h3, h4, h5, h6, trivial⟩⟩

theorem b1 {x y : Bool} (h : x = true ↔ y = true) : V.bool x = V.bool y := by rw [Bool.eq_iff_iff.2 h]

theorem face_sum : SumOk Tryd.prog E 34 faceS := by
  intro args bo r bo' ro h
  unfold faceS at h
  split at h
  · rename_i f
    simp only [Option.some.injEq, Prod.mk.injEq] at h
    obtain ⟨rfl, rfl, rfl⟩ := h
    refine con_all Tryd.mixed (tabO_ok (l := []) trivial) (face_all f _ ?_ ?_) <;> (intro h; refine ⟨b1 ?_, rfl, rfl⟩; simp only [okF, decide_eq_true_eq, decide_eq_false_iff_not, and_true, Bool.false_eq_true, false_iff] at h ⊢; omega)
  · cases h

theorem wr3 {a b c : Int} (h1 : 0 ≤ a) (h2 : a ≤ 840) (h3 : 0 ≤ b) (h4 : b ≤ 840) (h5 : 0 ≤ c) (h6 : c ≤ 840) : IntKind.i64.wrap (IntKind.i64.wrap (a + b) + c) = a + b + c := by
  rw [wrap64 (x := a + b) (by omega) (by omega), wrap64 (by omega) (by omega)]

theorem valid_sum : SumOk Tryd.prog E 27 validS := by
  intro args bo r bo' ro h
  unfold validS at h
  split at h
  · rename_i f a b c
    simp only [Option.some.injEq, Prod.mk.injEq] at h
    obtain ⟨rfl, rfl, rfl⟩ := h
    refine con_all Tryd.mixed (tabO_ok (l := [(34, faceS)]) ⟨⟨face_sum, ok34⟩, trivial⟩) (valid_all f a b c _ ?_ ?_ ?_ ?_ ?_ ?_ ?_ ?_) <;>
      (intro h; refine ⟨b1 ?_, rfl, rfl⟩; simp only [okP, okF, decide_eq_true_eq, decide_eq_false_iff_not, and_true, Bool.false_eq_true, beq_iff_eq, false_iff] at h ⊢)
    case refine_7 =>
      rw [wr3 (by omega) (by omega) (by omega) (by omega) (by omega) (by omega)]
      omega
    all_goals omega
  · cases h

theorem tab2 : TabOk Tryd.prog E [(34, faceS), (27, validS)] := ⟨⟨face_sum, ok34⟩, ⟨valid_sum, ok27⟩, trivial⟩

theorem of_sum : SumOk Tryd.prog E 32 ofS := by
  intro args bo r bo' ro h
  unfold ofS at h
  split at h
  · rename_i f a b c
    split at h
    · rename_i hf
      simp only [Option.some.injEq, Prod.mk.injEq] at h
      obtain ⟨rfl, rfl, rfl⟩ := h
      rcases twenty hf.1 hf.2 with rfl | rfl | rfl | rfl | rfl | rfl | rfl | rfl | rfl | rfl | rfl | rfl | rfl | rfl | rfl | rfl | rfl | rfl | rfl | rfl <;>
        exact con_ev (fuel := 20) (ds := []) (cs := []) Tryd.mixed (tabO_ok tab2) (by kernel_rfl) trivial
    · cases h
  · cases h

theorem on_sum : SumOk Tryd.prog E 33 onS := by
  intro args bo r bo' ro h
  unfold onS at h
  split at h
  · rename_i n w0 w1 w2 w3 w4 w5 w6 w7 w8 w9 w10 w11
    split at h
    · rename_i hf
      simp only [Option.some.injEq, Prod.mk.injEq] at h
      obtain ⟨rfl, rfl, rfl⟩ := h
      rcases twenty hf.1 hf.2 with rfl | rfl | rfl | rfl | rfl | rfl | rfl | rfl | rfl | rfl | rfl | rfl | rfl | rfl | rfl | rfl | rfl | rfl | rfl | rfl <;>
        exact con_ev (fuel := 20) (ds := []) (cs := []) Tryd.mixed (tabO_ok tab2) (by kernel_rfl) trivial
    · cases h
  · cases h

theorem corn_sum : SumOk Tryd.prog E 16 cornS := by
  intro args bo r bo' ro h
  unfold cornS at h
  split at h
  · rename_i n
    split at h
    · rename_i hf
      simp only [Option.some.injEq, Prod.mk.injEq] at h
      obtain ⟨rfl, rfl, rfl⟩ := h
      rcases twenty hf.1 hf.2 with rfl | rfl | rfl | rfl | rfl | rfl | rfl | rfl | rfl | rfl | rfl | rfl | rfl | rfl | rfl | rfl | rfl | rfl | rfl | rfl <;>
        exact con_ev (fuel := 20) (ds := []) (cs := []) Tryd.mixed (tabO_ok tab2) (by kernel_rfl) trivial
    · cases h
  · cases h
end Go.Proofs.YtbiifkfehfapkaaDoor
