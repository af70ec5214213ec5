/- Places on the icosahedron, in plain Lean. -/
import Derived.Test.YtbnglnpgkcjlhaaDoorWg
import Derived.LoadGo2
namespace Go.Vi

def corT : List I3 := [⟨0, 1, 2⟩, ⟨0, 2, 3⟩, ⟨0, 3, 4⟩, ⟨0, 4, 5⟩, ⟨0, 5, 1⟩, ⟨1, 6, 2⟩, ⟨2, 7, 3⟩, ⟨3, 8, 4⟩, ⟨4, 9, 5⟩, ⟨5, 10, 1⟩, ⟨6, 7, 2⟩, ⟨7, 8, 3⟩, ⟨8, 9, 4⟩, ⟨9, 10, 5⟩, ⟨10, 6, 1⟩, ⟨11, 7, 6⟩, ⟨11, 8, 7⟩, ⟨11, 9, 8⟩, ⟨11, 10, 9⟩, ⟨11, 6, 10⟩]

def okF (f : Int) : Bool := decide (0 ≤ f ∧ f < 20)
def okP (p : Pl) : Bool := decide (0 ≤ p.f ∧ p.f < 20 ∧ 0 ≤ p.a ∧ p.a ≤ 840 ∧ 0 ≤ p.b ∧ p.b ≤ 840 ∧ 0 ≤ p.c ∧ p.c ≤ 840 ∧ p.a + p.b + p.c = 840)
def corI (f : Int) : I3 := corT.getD f.toNat ⟨0, 0, 0⟩

/-- The weight of a vertex. -/
def wt (p : Pl) (j : Nat) : Int := if (corI p.f).z.toNat = j then p.c else if (corI p.f).y.toNat = j then p.b else if (corI p.f).x.toNat = j then p.a else 0
def wv (g : Nat → Int) : V := .agg [.int .i64 (g 0), .int .i64 (g 1), .int .i64 (g 2), .int .i64 (g 3), .int .i64 (g 4), .int .i64 (g 5), .int .i64 (g 6), .int .i64 (g 7), .int .i64 (g 8), .int .i64 (g 9), .int .i64 (g 10), .int .i64 (g 11)]
def wl (g : Nat → Int) : List Int := [g 0, g 1, g 2, g 3, g 4, g 5, g 6, g 7, g 8, g 9, g 10, g 11]
def onP (n : Int) (g : Nat → Int) : Pl := ⟨n, g (corI n).x.toNat, g (corI n).y.toNat, g (corI n).z.toNat⟩
def cornF (n : Int) : I3 × Int := if okF n then (corI n, 0) else (⟨0, 0, 0⟩, 1)
def addrK (p : Pl) (k : Nat) : List Pl := ((List.range k).map fun (n : Nat) => onP (n : Int) (wt p)).filter okP
def addrF (p : Pl) : List Pl × Int := if okP p then (addrK p 20, 0) else ([], 1)
def nrmF (p : Pl) : Pl × Int := if okP p then ((addrK p 20).head?.getD p, 0) else (⟨0, 0, 0, 0⟩, 1)
def wtEq (g h : Nat → Int) : Bool := (wl g) == (wl h)
def sameF (p q : Pl) : Bool := okP p && (okP q && wtEq (wt p) (wt q))

theorem addrK_succ (p : Pl) (k : Nat) : addrK p (k + 1) = addrK p k ++ (if okP (onP k (wt p)) then [onP k (wt p)] else []) := by
  simp only [addrK, List.range_succ, List.map_append, List.filter_append, List.map_cons, List.map_nil, List.filter_cons, List.filter_nil]

theorem addrK_len (p : Pl) (k : Nat) : (addrK p k).length ≤ k := by
  unfold addrK
  exact Nat.le_trans (List.length_filter_le _ _) (by simp)

theorem addrK_more (p : Pl) (k : Nat) : ∀ m, ∃ l, addrK p (k + m) = addrK p k ++ l
  | 0 => ⟨[], by simp⟩
  | m + 1 => by
    obtain ⟨l, h⟩ := addrK_more p k m
    exact ⟨l ++ (if okP (onP ((k + m : Nat) : Int) (wt p)) then [onP ((k + m : Nat) : Int) (wt p)] else []), by rw [← Nat.add_assoc, addrK_succ, h, List.append_assoc]⟩

theorem addrK_head (p : Pl) {k : Nat} (hk : k ≤ 20) {q : Pl} (h : addrK p k = [q]) : (addrK p 20).head?.getD p = q := by
  obtain ⟨l, hl⟩ := addrK_more p k (20 - k)
  rw [show k + (20 - k) = 20 by omega, h] at hl
  rw [hl]; rfl

theorem corT_len : corT.length = 20 := rfl
theorem corT_in : ∀ x ∈ corT, (0 ≤ x.x ∧ x.x < 12) ∧ (0 ≤ x.y ∧ x.y < 12) ∧ (0 ≤ x.z ∧ x.z < 12) := by decide
theorem corI_of {f : Int} {x : I3} (h : corT[f.toNat]? = some x) : corI f = x := by
  unfold corI
  rw [List.getD_eq_getElem?_getD, h]; rfl
theorem corI_in (f : Int) : (0 ≤ (corI f).x ∧ (corI f).x < 12) ∧ (0 ≤ (corI f).y ∧ (corI f).y < 12) ∧ (0 ≤ (corI f).z ∧ (corI f).z < 12) := by
  unfold corI
  rw [List.getD_eq_getElem?_getD]
  cases h : corT[f.toNat]? with
  | none => decide
  | some x => exact corT_in x (List.mem_of_getElem? h)

theorem okF_iff {f : Int} : okF f = true ↔ 0 ≤ f ∧ f < 20 := by simp [okF]
theorem okP_iff {p : Pl} : okP p = true ↔ (0 ≤ p.f ∧ p.f < 20 ∧ 0 ≤ p.a ∧ p.a ≤ 840 ∧ 0 ≤ p.b ∧ p.b ≤ 840 ∧ 0 ≤ p.c ∧ p.c ≤ 840 ∧ p.a + p.b + p.c = 840) := by simp [okP]

/-! ### texts -/
def dgI (x : Int) (k : Nat) : Int := 48 + x / (10 ^ k : Nat) % 10
def dgB (x : Int) (k : Nat) : UInt8 := UInt8.ofNat (dgI x k).toNat
def fmtS (p : Pl) : ByteArray := ⟨#[dgB p.f 1, dgB p.f 0, dgB p.a 2, dgB p.a 1, dgB p.a 0, dgB p.b 2, dgB p.b 1, dgB p.b 0]⟩
def fmtF (p : Pl) : ByteArray × Int := if okP p then (fmtS p, 0) else (⟨#[]⟩, 1)
def isDg (b : UInt8) : Bool := decide (48 ≤ b.toNat ∧ b.toNat ≤ 57)
def dgV (b : UInt8) : Int := (b.toNat : Int) - 48
def num2 (a b : UInt8) : Int := 10 * dgV a + dgV b
def num3 (a b c : UInt8) : Int := 10 * (10 * dgV a + dgV b) + dgV c
def prsP (a b c d e f g h : UInt8) : Pl := ⟨num2 a b, num3 c d e, num3 f g h, 840 - num3 c d e - num3 f g h⟩
def prs8 (a b c d e f g h : UInt8) : Pl × Int :=
  if isDg a && (isDg b && (isDg c && (isDg d && (isDg e && (isDg f && (isDg g && isDg h)))))) then
    if okP (prsP a b c d e f g h) then (prsP a b c d e f g h, 0) else (⟨0, 0, 0, 0⟩, 3)
  else (⟨0, 0, 0, 0⟩, 3)
def prsF (s : ByteArray) : Pl × Int :=
  match s.data.toList with
  | [a, b, c, d, e, f, g, h] => prs8 a b c d e f g h
  | _ => (⟨0, 0, 0, 0⟩, 3)

def dD (a b c d e f g h : UInt8) : Prop := ((48 ≤ a.toNat ∧ a.toNat ≤ 57) ∧ (48 ≤ b.toNat ∧ b.toNat ≤ 57)) ∧ ((48 ≤ c.toNat ∧ c.toNat ≤ 57) ∧ (48 ≤ d.toNat ∧ d.toNat ≤ 57)) ∧ ((48 ≤ e.toNat ∧ e.toNat ≤ 57) ∧ (48 ≤ f.toNat ∧ f.toNat ≤ 57)) ∧ ((48 ≤ g.toNat ∧ g.toNat ≤ 57) ∧ (48 ≤ h.toNat ∧ h.toNat ≤ 57))
theorem prs8_no {a b c d e f g h : UInt8} (hn : ¬ dD a b c d e f g h) : prs8 a b c d e f g h = (⟨0, 0, 0, 0⟩, 3) := by
  unfold prs8
  rw [if_neg]
  intro hh
  simp only [Bool.and_eq_true, isDg, decide_eq_true_eq] at hh
  unfold dD at hn
  exact hn (by omega)
theorem prs8_yes {a b c d e f g h : UInt8} (hn : dD a b c d e f g h) : prs8 a b c d e f g h = if okP (prsP a b c d e f g h) then (prsP a b c d e f g h, 0) else (⟨0, 0, 0, 0⟩, 3) := by
  unfold prs8
  rw [if_pos]
  unfold dD at hn
  simp only [Bool.and_eq_true, isDg, decide_eq_true_eq]
  omega

theorem dgV_in {b : UInt8} (h : isDg b = true) : 0 ≤ dgV b ∧ dgV b ≤ 9 := by
  simp only [isDg, decide_eq_true_eq] at h
  unfold dgV
  omega

theorem dg_tmod {x : Int} (h : 0 ≤ x) : x.tmod 10 = x % 10 ∧ x.tdiv 10 = x / 10 := ⟨Int.tmod_eq_emod_of_nonneg h, Int.tdiv_eq_ediv_of_nonneg h⟩

theorem prsF_eq {s : ByteArray} (h : s.size = 8) : ∃ a b c d e f g i, s = ⟨#[a, b, c, d, e, f, g, i]⟩ := by
  obtain ⟨⟨l⟩⟩ := s
  have hl : l.length = 8 := h
  match l, hl with
  | [a, b, c, d, e, f, g, i], _ => exact ⟨a, b, c, d, e, f, g, i, rfl⟩

theorem prsF_ne {s : ByteArray} (h : s.size ≠ 8) : prsF s = (⟨0, 0, 0, 0⟩, 3) := by
  unfold prsF
  split
  · rename_i heq
    exfalso
    apply h
    have : s.data.toList.length = 8 := by rw [heq]; rfl
    simpa using this
  · rfl

/-! ### across -/
def c3 (x : I3) : List Int := [x.x, x.y, x.z]
def hasAB (n k f : Int) : Bool := (c3 (corI f)).any (fun v => v == (c3 (corI n)).getD ((k + 1) % 3).toNat 0) && ((c3 (corI f)).any (fun v => v == (c3 (corI n)).getD ((k + 2) % 3).toNat 0) && f != n)

def midP (n : Int) (k : Int) : Pl := ⟨n, if k = 0 then 0 else 420, if k = 1 then 0 else 420, if k = 2 then 0 else 420⟩
def acrF (n k : Int) : Int × Int := if okF n && (decide (0 ≤ k) && decide (k ≤ 2)) then (match (addrK (midP n k) 20).find? (fun q => q.f != n) with | some q => (q.f, 0) | none => (0, 1)) else (0, 1)

set_option maxRecDepth 100000 in
theorem acr_ref : (List.range 20).all (fun n => (List.range 3).all fun k => (match (List.range 20).find? (fun (f : Nat) => hasAB (n : Nat) (k : Nat) (f : Nat)) with | some (f : Nat) => acrF (n : Nat) (k : Nat) == ((f : Int), 0) | none => false)) = true := by kernel_rfl

theorem acr_out {n k : Int} (hn : okF n = true) (hk : 0 ≤ k ∧ k ≤ 2) : ∃ f : Nat, f < 20 ∧ hasAB n k f = true ∧ (∀ g : Nat, g < f → hasAB n k g = false) ∧ acrF n k = ((f : Int), 0) := by
  have hn := okF_iff.1 hn
  have h := acr_ref
  have h1 := List.all_eq_true.1 h n.toNat (List.mem_range.2 (by omega))
  have h2 := List.all_eq_true.1 h1 k.toNat (List.mem_range.2 (by omega))
  rw [show ((n.toNat : Nat) : Int) = n by omega, show ((k.toNat : Nat) : Int) = k by omega] at h2
  split at h2
  · rename_i f hf
    obtain ⟨p1, i, p2, p3, p4⟩ := List.find?_eq_some_iff_getElem.1 hf
    rw [List.getElem_range] at p3
    subst p3
    have hlt : i < 20 := by simpa using p2
    refine ⟨i, hlt, p1, fun g hg => ?_, by simpa using h2⟩
    have := p4 g hg
    rw [List.getElem_range] at this
    simpa using this
  · cases h2

theorem wt_in {p : Pl} (h : okP p = true) (j : Nat) : 0 ≤ wt p j ∧ wt p j ≤ 840 := by
  have h := okP_iff.1 h
  unfold wt
  split
  · omega
  split
  · omega
  split <;> omega

/-- On a valid place's weights a sum is enough. -/
theorem onP_sum {p : Pl} (h : okP p = true) {k : Int} (hk : okF k = true) : okP (onP k (wt p)) = (wt p (corI k).x.toNat + wt p (corI k).y.toNat + wt p (corI k).z.toNat == 840) := by
  have h1 := wt_in h (corI k).x.toNat
  have h2 := wt_in h (corI k).y.toNat
  have h3 := wt_in h (corI k).z.toNat
  have hk := okF_iff.1 hk
  rw [Bool.eq_iff_iff, okP_iff, beq_iff_eq]
  simp only [onP]
  omega

theorem corT_ne : ∀ x ∈ corT, x.x.toNat ≠ x.y.toNat ∧ x.x.toNat ≠ x.z.toNat ∧ x.y.toNat ≠ x.z.toNat := by decide
theorem corI_mem {f : Int} (h : okF f = true) : corI f ∈ corT := by
  have h := okF_iff.1 h
  have hl : f.toNat < corT.length := by rw [corT_len]; omega
  have : corT[f.toNat]? = some corT[f.toNat] := List.getElem?_eq_getElem hl
  rw [corI_of this]
  exact List.getElem_mem hl

theorem onP_self {p : Pl} (h : okP p = true) : onP p.f (wt p) = p := by
  have hp := okP_iff.1 h
  obtain ⟨h1, h2, h3⟩ := corT_ne _ (corI_mem (okF_iff.2 ⟨hp.1, hp.2.1⟩))
  obtain ⟨f, a, b, c⟩ := p
  simp only [onP, wt] at *
  simp only [if_neg (Ne.symm h2), if_neg (Ne.symm h1), if_neg (Ne.symm h3), if_true]

theorem self_mem {p : Pl} (h : okP p = true) : p ∈ addrK p 20 := by
  have hp := okP_iff.1 h
  simp only [addrK, List.mem_filter, List.mem_map, List.mem_range]
  exact ⟨⟨p.f.toNat, by omega, by rw [show ((p.f.toNat : Nat) : Int) = p.f by omega, onP_self h]⟩, h⟩

theorem addrK_pos {p : Pl} (h : okP p = true) : ∃ q l, addrK p 20 = q :: l := by
  have := self_mem h
  cases hl : addrK p 20 with
  | nil => rw [hl] at this; simp at this
  | cons q l => exact ⟨q, l, rfl⟩

theorem wl_get (g : Nat → Int) {j : Nat} (h : j < 12) : (wl g)[j]? = some (g j) := by
  have : j = 0 ∨ j = 1 ∨ j = 2 ∨ j = 3 ∨ j = 4 ∨ j = 5 ∨ j = 6 ∨ j = 7 ∨ j = 8 ∨ j = 9 ∨ j = 10 ∨ j = 11 := by omega
  rcases this with rfl | rfl | rfl | rfl | rfl | rfl | rfl | rfl | rfl | rfl | rfl | rfl <;> rfl
/-- A place that is valid and normal. -/
def isNF (p : Pl) : Bool := (nrmF p).2 == 0 && decide (p = (nrmF p).1)
theorem isNF_ok {p : Pl} (h : isNF p = true) : okP p = true ∧ nrmF p = (p, 0) := by
  unfold isNF at h
  simp only [Bool.and_eq_true, beq_iff_eq, decide_eq_true_eq] at h
  have h0 : okP p = true := by
    cases h1 : okP p with
    | true => rfl
    | false => unfold nrmF at h; rw [h1] at h; simp at h
  exact ⟨h0, Prod.ext h.2.symm h.1⟩
theorem Pl.ext4 {p q : Pl} (h1 : p.f = q.f) (h2 : p.a = q.a) (h3 : p.b = q.b) (h4 : p.c = q.c) : p = q := by
  cases p; cases q; simp only at h1 h2 h3 h4; subst h1; subst h2; subst h3; subst h4; rfl
end Go.Vi

/- The addresses of a place, in plain Lean. -/
set_option linter.unusedSimpArgs false
namespace Go.Vi

def inC (v : Nat) (x : I3) : Bool := x.x.toNat == v || (x.y.toNat == v || x.z.toNat == v)
/-- Does a face have all corners of a place that bear weight? -/
def patt (c k : I3) (za zb zc : Bool) : Bool := (za || inC c.x.toNat k) && ((zb || inC c.y.toNat k) && (zc || inC c.z.toNat k))

theorem wt_sum {p : Pl} (h : okF p.f = true) (v : Nat) : wt p v = (if (corI p.f).x.toNat = v then p.a else 0) + (if (corI p.f).y.toNat = v then p.b else 0) + (if (corI p.f).z.toNat = v then p.c else 0) := by
  obtain ⟨h1, h2, h3⟩ := corT_ne _ (corI_mem h)
  unfold wt
  generalize (corI p.f).x.toNat = x at *
  generalize (corI p.f).y.toNat = y at *
  generalize (corI p.f).z.toNat = z at *
  by_cases e1 : x = v <;> by_cases e2 : y = v <;> by_cases e3 : z = v <;> simp [e1, e2, e3] <;> omega

theorem inC_iff {u : Nat} {k : I3} : inC u k = true ↔ u = k.x.toNat ∨ u = k.y.toNat ∨ u = k.z.toNat := by
  simp only [inC, Bool.or_eq_true, beq_iff_eq]
  constructor <;> (intro h; omega)

theorem one_of {k : I3} (hk : k ∈ corT) (u : Nat) (a : Int) : (if u = k.x.toNat then a else 0) + (if u = k.y.toNat then a else 0) + (if u = k.z.toNat then a else 0) = if inC u k then a else 0 := by
  obtain ⟨h1, h2, h3⟩ := corT_ne _ hk
  by_cases e1 : u = k.x.toNat
  · rw [if_pos e1, if_neg (by omega), if_neg (by omega), if_pos (inC_iff.2 (.inl e1))]; omega
  · by_cases e2 : u = k.y.toNat
    · rw [if_neg e1, if_pos e2, if_neg (by omega), if_pos (inC_iff.2 (.inr (.inl e2)))]; omega
    · by_cases e3 : u = k.z.toNat
      · rw [if_neg e1, if_neg e2, if_pos e3, if_pos (inC_iff.2 (.inr (.inr e3)))]; omega
      · rw [if_neg e1, if_neg e2, if_neg e3, if_neg (fun h => by have := inC_iff.1 h; omega)]; omega

theorem ok_patt {p : Pl} (h : okP p = true) {k : Int} (hk : okF k = true) : okP (onP k (wt p)) = patt (corI p.f) (corI k) (p.a == 0) (p.b == 0) (p.c == 0) := by
  have hp := okP_iff.1 h
  have hf : okF p.f = true := okF_iff.2 ⟨hp.1, hp.2.1⟩
  have e1 := one_of (corI_mem hk) (corI p.f).x.toNat p.a
  have e2 := one_of (corI_mem hk) (corI p.f).y.toNat p.b
  have e3 := one_of (corI_mem hk) (corI p.f).z.toNat p.c
  have es : wt p (corI k).x.toNat + wt p (corI k).y.toNat + wt p (corI k).z.toNat = (if inC (corI p.f).x.toNat (corI k) then p.a else 0) + (if inC (corI p.f).y.toNat (corI k) then p.b else 0) + (if inC (corI p.f).z.toNat (corI k) then p.c else 0) := by
    rw [wt_sum hf, wt_sum hf, wt_sum hf, ← e1, ← e2, ← e3]
    simp only [Int.add_assoc, Int.add_comm, Int.add_left_comm]
  rw [onP_sum h hk, es]
  clear e1 e2 e3 es
  unfold patt
  cases inC (corI p.f).x.toNat (corI k) <;> cases inC (corI p.f).y.toNat (corI k) <;> cases inC (corI p.f).z.toNat (corI k) <;>
    rw [Bool.eq_iff_iff] <;> simp only [beq_iff_eq, Bool.and_eq_true, Bool.or_eq_true, Bool.false_eq_true, or_false, or_true, and_true, true_and, Bool.or_true, Bool.or_false, if_true, if_false, iff_true] <;> omega

def facesK (c : I3) (za zb zc : Bool) : List Nat := (List.range 20).filter fun k => patt c (corI k) za zb zc

theorem addr_faces {p : Pl} (h : okP p = true) : addrK p 20 = (facesK (corI p.f) (p.a == 0) (p.b == 0) (p.c == 0)).map fun (k : Nat) => onP (k : Int) (wt p) := by
  unfold addrK facesK
  rw [List.filter_map]
  congr 1
  apply List.filter_congr
  intro k hk
  have := List.mem_range.1 hk
  simp only [Function.comp]
  exact ok_patt h (okF_iff.2 (by omega))

set_option maxRecDepth 100000 in
theorem faces_len : corT.all (fun c => (facesK c false false false).length == 1 && ((facesK c true false false).length == 2 && ((facesK c false true false).length == 2 && ((facesK c false false true).length == 2 &&
    ((facesK c true true false).length == 5 && ((facesK c true false true).length == 5 && (facesK c false true true).length == 5)))))) = true := by kernel_rfl

def zerosP (p : Pl) : Nat := (if p.a = 0 then 1 else 0) + (if p.b = 0 then 1 else 0) + (if p.c = 0 then 1 else 0)

theorem addr_len {p : Pl} (h : okP p = true) : [1, 2, 5][zerosP p]? = some (addrK p 20).length := by
  have hp := okP_iff.1 h
  have hf : okF p.f = true := okF_iff.2 ⟨hp.1, hp.2.1⟩
  have hl := List.all_eq_true.1 faces_len _ (corI_mem hf)
  simp only [Bool.and_eq_true, beq_iff_eq] at hl
  obtain ⟨l1, l2, l3, l4, l5, l6, l7⟩ := hl
  rw [addr_faces h, List.length_map]
  have t : ∀ {x : Int}, x = 0 → (x == 0) = true := fun h => by simp [h]
  have f : ∀ {x : Int}, x ≠ 0 → (x == 0) = false := fun h => by simp [h]
  unfold zerosP
  by_cases ha : p.a = 0
  · by_cases hb : p.b = 0
    · have hc : p.c ≠ 0 := by omega
      rw [t ha, t hb, f hc, l5, if_pos ha, if_pos hb, if_neg hc]; rfl
    · by_cases hc : p.c = 0
      · rw [t ha, f hb, t hc, l6, if_pos ha, if_neg hb, if_pos hc]; rfl
      · rw [t ha, f hb, f hc, l2, if_pos ha, if_neg hb, if_neg hc]; rfl
  · by_cases hb : p.b = 0
    · by_cases hc : p.c = 0
      · rw [f ha, t hb, t hc, l7, if_neg ha, if_pos hb, if_pos hc]; rfl
      · rw [f ha, t hb, f hc, l3, if_neg ha, if_pos hb, if_neg hc]; rfl
    · by_cases hc : p.c = 0
      · rw [f ha, f hb, t hc, l4, if_neg ha, if_neg hb, if_pos hc]; rfl
      · rw [f ha, f hb, f hc, l1, if_neg ha, if_neg hb, if_neg hc]; rfl

/-! ### the order of the addresses -/
theorem addrK_lt (p : Pl) : ∀ (k : Nat) (x : Pl), x ∈ addrK p k → x.f < k
  | 0, x, h => by simp [addrK] at h
  | k + 1, x, h => by
    rw [addrK_succ] at h
    simp only [List.mem_append] at h
    rcases h with h | h
    · have := addrK_lt p k x h; omega
    · split at h
      · simp only [List.mem_singleton] at h; subst h; simp only [onP]; omega
      · simp at h

theorem addrK_asc (p : Pl) : ∀ k, (addrK p k).Pairwise fun x y => x.f < y.f
  | 0 => by simp [addrK]
  | k + 1 => by
    rw [addrK_succ]
    refine List.pairwise_append.2 ⟨addrK_asc p k, by split <;> simp, fun x hx y hy => ?_⟩
    have := addrK_lt p k x hx
    split at hy
    · simp only [List.mem_singleton] at hy; subst hy; simp only [onP]; exact this
    · simp at hy

/-! ### all addresses have the same weights -/
theorem total {p : Pl} (h : okP p = true) : wt p 0 + wt p 1 + wt p 2 + wt p 3 + wt p 4 + wt p 5 + wt p 6 + wt p 7 + wt p 8 + wt p 9 + wt p 10 + wt p 11 = 840 := by
  have hp := okP_iff.1 h
  have hf : okF p.f = true := okF_iff.2 ⟨hp.1, hp.2.1⟩
  obtain ⟨h1, h2, h3⟩ := corI_in p.f
  have key : ∀ (u : Nat) (a : Int), u < 12 → (if u = 0 then a else 0) + (if u = 1 then a else 0) + (if u = 2 then a else 0) + (if u = 3 then a else 0) + (if u = 4 then a else 0) + (if u = 5 then a else 0) + (if u = 6 then a else 0) + (if u = 7 then a else 0) + (if u = 8 then a else 0) + (if u = 9 then a else 0) + (if u = 10 then a else 0) + (if u = 11 then a else 0) = a := by
    intro u a hu
    have : u = 0 ∨ u = 1 ∨ u = 2 ∨ u = 3 ∨ u = 4 ∨ u = 5 ∨ u = 6 ∨ u = 7 ∨ u = 8 ∨ u = 9 ∨ u = 10 ∨ u = 11 := by omega
    rcases this with rfl | rfl | rfl | rfl | rfl | rfl | rfl | rfl | rfl | rfl | rfl | rfl <;> simp
  have k1 := key (corI p.f).x.toNat p.a (by omega)
  have k2 := key (corI p.f).y.toNat p.b (by omega)
  have k3 := key (corI p.f).z.toNat p.c (by omega)
  simp only [wt_sum hf]
  omega

theorem wt_on {p : Pl} (h : okP p = true) {k : Int} (hk : okF k = true) (hok : okP (onP k (wt p)) = true) {j : Nat} (hj : j < 12) : wt (onP k (wt p)) j = wt p j := by
  have hs : wt p (corI k).x.toNat + wt p (corI k).y.toNat + wt p (corI k).z.toNat = 840 := by
    rw [onP_sum h hk] at hok; simpa using hok
  have ht := total h
  have hn := fun j => (wt_in h j).1
  obtain ⟨h1, h2, h3⟩ := corT_ne _ (corI_mem hk)
  obtain ⟨i1, i2, i3⟩ := corI_in k
  have hw : wt (onP k (wt p)) j = if (corI k).z.toNat = j then wt p (corI k).z.toNat else if (corI k).y.toNat = j then wt p (corI k).y.toNat else if (corI k).x.toNat = j then wt p (corI k).x.toNat else 0 := rfl
  rw [hw]
  split
  · rename_i e; rw [e]
  split
  · rename_i e; rw [e]
  split
  · rename_i e; rw [e]
  rename_i n1 n2 n3
  -- four different vertices
  have four : ∀ (g : Nat → Int), (∀ j, 0 ≤ g j) → ∀ a b c d : Nat, a < 12 → b < 12 → c < 12 → d < 12 → a ≠ b → a ≠ c → b ≠ c → a ≠ d → b ≠ d → c ≠ d →
      g a + g b + g c + g d ≤ g 0 + g 1 + g 2 + g 3 + g 4 + g 5 + g 6 + g 7 + g 8 + g 9 + g 10 + g 11 := by
    intro g hg a b c d ha hb hc hd hab hac hbc had hbd hcd
    have key : ∀ u, u < 12 → ∀ x : Int, (if u = 0 then x else 0) + (if u = 1 then x else 0) + (if u = 2 then x else 0) + (if u = 3 then x else 0) + (if u = 4 then x else 0) + (if u = 5 then x else 0) + (if u = 6 then x else 0) + (if u = 7 then x else 0) + (if u = 8 then x else 0) + (if u = 9 then x else 0) + (if u = 10 then x else 0) + (if u = 11 then x else 0) = x := by
      intro u hu x
      have : u = 0 ∨ u = 1 ∨ u = 2 ∨ u = 3 ∨ u = 4 ∨ u = 5 ∨ u = 6 ∨ u = 7 ∨ u = 8 ∨ u = 9 ∨ u = 10 ∨ u = 11 := by omega
      rcases this with rfl | rfl | rfl | rfl | rfl | rfl | rfl | rfl | rfl | rfl | rfl | rfl <;> simp
    have each : ∀ v, (if a = v then g a else 0) + (if b = v then g b else 0) + (if c = v then g c else 0) + (if d = v then g d else 0) ≤ g v := by
      intro v
      have := hg v
      by_cases e1 : a = v
      · subst e1; simp [Ne.symm hab, Ne.symm hac, Ne.symm had]
      · by_cases e2 : b = v
        · subst e2; simp [hab, Ne.symm hbc, Ne.symm hbd]
        · by_cases e3 : c = v
          · subst e3; simp [hac, hbc, Ne.symm hcd]
          · by_cases e4 : d = v
            · subst e4; simp [had, hbd, hcd]
            · simp [e1, e2, e3, e4, this]
    have s1 := key a ha (g a)
    have s2 := key b hb (g b)
    have s3 := key c hc (g c)
    have s4 := key d hd (g d)
    have t0 := each 0
    have t1 := each 1
    have t2 := each 2
    have t3 := each 3
    have t4 := each 4
    have t5 := each 5
    have t6 := each 6
    have t7 := each 7
    have t8 := each 8
    have t9 := each 9
    have t10 := each 10
    have t11 := each 11
    omega
  have := four (wt p) hn _ _ _ j (by omega) (by omega) (by omega) hj h1 h2 h3 n3 n2 n1
  have := hn j
  omega

theorem wl_congr {g h : Nat → Int} (e : ∀ j, j < 12 → g j = h j) : wl g = wl h := by
  simp only [wl]
  rw [e 0 (by omega), e 1 (by omega), e 2 (by omega), e 3 (by omega), e 4 (by omega), e 5 (by omega), e 6 (by omega), e 7 (by omega), e 8 (by omega), e 9 (by omega), e 10 (by omega), e 11 (by omega)]

theorem wl_out {g h : Nat → Int} (e : wl g = wl h) {j : Nat} (hj : j < 12) : g j = h j := by
  have h1 := wl_get g hj
  have h2 := wl_get h hj
  rw [e, h2] at h1
  exact (Option.some.inj h1).symm

theorem onP_congr {g h : Nat → Int} (e : ∀ j, j < 12 → g j = h j) (n : Int) : onP n g = onP n h := by
  obtain ⟨h1, h2, h3⟩ := corI_in n
  simp only [onP]
  rw [e _ (by omega), e _ (by omega), e _ (by omega)]

theorem addrK_congr {p q : Pl} (e : ∀ j, j < 12 → wt p j = wt q j) (k : Nat) : addrK p k = addrK q k := by
  unfold addrK
  congr 1
  apply List.map_congr_left
  intro n _
  exact onP_congr e _

/-- An address of a place is valid and has its weights. -/
theorem addr_mem {p x : Pl} (h : okP p = true) (hx : x ∈ addrK p 20) : okP x = true ∧ ∀ j, j < 12 → wt x j = wt p j := by
  simp only [addrK, List.mem_filter, List.mem_map, List.mem_range] at hx
  obtain ⟨⟨k, hk, rfl⟩, hok⟩ := hx
  exact ⟨hok, fun j hj => wt_on h (okF_iff.2 (by omega)) hok hj⟩

theorem nrm_mem {p x : Pl} (h : okP p = true) (hx : x ∈ addrK p 20) : nrmF x = nrmF p := by
  obtain ⟨h1, h2⟩ := addr_mem h hx
  obtain ⟨q, l, hq⟩ := addrK_pos h
  simp only [nrmF, h, h1, if_true]
  rw [addrK_congr h2, hq]; rfl

theorem same_mem {p x : Pl} (h : okP p = true) (hx : x ∈ addrK p 20) : sameF x p = true := by
  obtain ⟨h1, h2⟩ := addr_mem h hx
  simp only [sameF, h, h1, Bool.true_and, wtEq, beq_iff_eq]
  exact wl_congr h2

theorem same_nrm {p q : Pl} (hp : okP p = true) (hq : okP q = true) : sameF p q = ((nrmF p).1 == (nrmF q).1) := by
  obtain ⟨x, l, hx⟩ := addrK_pos hp
  obtain ⟨y, m, hy⟩ := addrK_pos hq
  have e1 : (nrmF p).1 = x := by simp [nrmF, hp, hx]
  have e2 : (nrmF q).1 = y := by simp [nrmF, hq, hy]
  rw [e1, e2, Bool.eq_iff_iff]
  simp only [sameF, hp, hq, Bool.true_and, wtEq, beq_iff_eq]
  have m1 := (addr_mem hp (x := x) (by rw [hx]; simp)).2
  have m2 := (addr_mem hq (x := y) (by rw [hy]; simp)).2
  constructor
  · intro e
    have := addrK_congr (fun j hj => wl_out e hj) 20
    rw [hx, hy] at this
    exact (List.cons.inj this).1
  · intro e
    subst e
    exact wl_congr fun j hj => by rw [← m1 j hj, m2 j hj]
end Go.Vi
namespace Go.Vi
theorem pl_eqb (x y : Pl) : (x.f == y.f && (x.a == y.a && (x.b == y.b && (x.c == y.c && true)))) = decide (x = y) := by
  obtain ⟨a, b, c, d⟩ := x
  obtain ⟨e, f, g, h⟩ := y
  rw [Bool.eq_iff_iff]
  simp

theorem addrF_len (p : Pl) : (addrF p).1.length ≤ 1000000 := by
  unfold addrF
  split
  · have := addrK_len p 20; dsimp only; omega
  · simp

theorem dgB_nat {x : Int} (k : Nat) : 48 ≤ (dgB x k).toNat ∧ (dgB x k).toNat ≤ 57 ∧ dgV (dgB x k) = x / (10 ^ k : Nat) % 10 := by
  unfold dgV dgB dgI
  have h1 := Int.emod_nonneg (x / (10 ^ k : Nat)) (show (10 : Int) ≠ 0 by decide)
  have h2 := Int.emod_lt_of_pos (x / (10 ^ k : Nat)) (show (0 : Int) < 10 by decide)
  generalize x / (10 ^ k : Nat) % 10 = d at *
  have : (UInt8.ofNat (48 + d).toNat).toNat = (48 + d).toNat := by
    rw [UInt8.toNat_ofNat']
    omega
  rw [this]
  omega

theorem prs_fmt {p : Pl} (h : okP p = true) : prsF (fmtS p) = (p, 0) := by
  have hp := okP_iff.1 h
  have f1 := dgB_nat (x := p.f) 1
  have f0 := dgB_nat (x := p.f) 0
  have a2 := dgB_nat (x := p.a) 2
  have a1 := dgB_nat (x := p.a) 1
  have a0 := dgB_nat (x := p.a) 0
  have b2 := dgB_nat (x := p.b) 2
  have b1 := dgB_nat (x := p.b) 1
  have b0 := dgB_nat (x := p.b) 0
  have e : prsP (dgB p.f 1) (dgB p.f 0) (dgB p.a 2) (dgB p.a 1) (dgB p.a 0) (dgB p.b 2) (dgB p.b 1) (dgB p.b 0) = p := by
    obtain ⟨f, a, b, c⟩ := p
    simp only [prsP, num2, num3, Pl.mk.injEq]
    simp only at hp f1 f0 a2 a1 a0 b2 b1 b0
    rw [f1.2.2, f0.2.2, a2.2.2, a1.2.2, a0.2.2, b2.2.2, b1.2.2, b0.2.2]
    have t0 : ((10 ^ 0 : Nat) : Int) = 1 := rfl
    have t1 : ((10 ^ 1 : Nat) : Int) = 10 := rfl
    have t2 : ((10 ^ 2 : Nat) : Int) = 100 := rfl
    rw [t0, t1, t2]
    refine ⟨?_, ?_, ?_, ?_⟩ <;> omega
  show prs8 _ _ _ _ _ _ _ _ = _
  rw [prs8_yes (by unfold dD; omega), e, if_pos h]
end Go.Vi

/- A place on an edge, in plain Lean. -/
set_option linter.unusedSimpArgs false
namespace Go.Vi
def edP (v k w : Int) : Pl := ⟨v, if 0 + ((k + 2).tmod 3).toNat * 1 = 0 then 840 - w else if 0 + ((k + 1).tmod 3).toNat * 1 = 0 then w else 0, if 0 + ((k + 2).tmod 3).toNat * 1 = 1 then 840 - w else if 0 + ((k + 1).tmod 3).toNat * 1 = 1 then w else 0, if 0 + ((k + 2).tmod 3).toNat * 1 = 2 then 840 - w else if 0 + ((k + 1).tmod 3).toNat * 1 = 2 then w else 0⟩
def edA (v k : Int) : Int := (c3 (corI v)).getD ((k + 1) % 3).toNat 0
def edB (v k : Int) : Int := (c3 (corI v)).getD ((k + 2) % 3).toNat 0

theorem ed_k {k : Int} (h : 0 ≤ k ∧ k ≤ 2) : k = 0 ∨ k = 1 ∨ k = 2 := by omega
theorem ed0 (v w : Int) : edP v 0 w = ⟨v, 0, w, 840 - w⟩ := rfl
theorem ed1 (v w : Int) : edP v 1 w = ⟨v, 840 - w, 0, w⟩ := rfl
theorem ed2 (v w : Int) : edP v 2 w = ⟨v, w, 840 - w, 0⟩ := rfl

theorem ed_ok {v k w : Int} (hv : okF v = true) (hk : 0 ≤ k ∧ k ≤ 2) (hw : 0 ≤ w ∧ w ≤ 840) : okP (edP v k w) = true := by
  have hv := okF_iff.1 hv
  rcases ed_k hk with rfl | rfl | rfl
  · rw [ed0, okP_iff]; dsimp only; omega
  · rw [ed1, okP_iff]; dsimp only; omega
  · rw [ed2, okP_iff]; dsimp only; omega

theorem ed_zeros {v k w : Int} (hk : 0 ≤ k ∧ k ≤ 2) (h0 : w ≠ 0) (h1 : w ≠ 840) : zerosP (edP v k w) = 1 := by
  rcases ed_k hk with rfl | rfl | rfl
  · rw [ed0]; unfold zerosP; dsimp only; rw [if_pos rfl, if_neg h0, if_neg (by omega)]
  · rw [ed1]; unfold zerosP; dsimp only; rw [if_neg (by omega), if_pos rfl, if_neg h0]
  · rw [ed2]; unfold zerosP; dsimp only; rw [if_neg h0, if_neg (by omega), if_pos rfl]

theorem ed_wt {v k w u : Int} (hv : okF v = true) (hk : 0 ≤ k ∧ k ≤ 2) (hu : 0 ≤ u) : wt (edP v k w) u.toNat = if u = edA v k then w else if u = edB v k then 840 - w else 0 := by
  obtain ⟨h1, h2, h3⟩ := corT_ne _ (corI_mem hv)
  obtain ⟨i1, i2, i3⟩ := corI_in v
  rcases ed_k hk with rfl | rfl | rfl
  · rw [ed0, show edA v 0 = (corI v).y from rfl, show edB v 0 = (corI v).z from rfl]
    unfold wt; dsimp only
    repeat' split
    all_goals omega
  · rw [ed1, show edA v 1 = (corI v).z from rfl, show edB v 1 = (corI v).x from rfl]
    unfold wt; dsimp only
    repeat' split
    all_goals omega
  · rw [ed2, show edA v 2 = (corI v).x from rfl, show edB v 2 = (corI v).y from rfl]
    unfold wt; dsimp only
    repeat' split
    all_goals omega

theorem c3_in (v : Int) : ∀ u ∈ c3 (corI v), 0 ≤ u ∧ u < 12 := by
  obtain ⟨i1, i2, i3⟩ := corI_in v
  intro u hu
  simp only [c3, List.mem_cons, List.not_mem_nil, or_false] at hu
  rcases hu with rfl | rfl | rfl <;> assumption

theorem inC_any {g : Int} {u : Int} (hu : 0 ≤ u) (h : (c3 (corI g)).any (fun x => x == u) = true) : inC u.toNat (corI g) = true := by
  obtain ⟨i1, i2, i3⟩ := corI_in g
  simp only [c3, List.any_cons, List.any_nil, Bool.or_false, Bool.or_eq_true, beq_iff_eq] at h
  rw [inC_iff]
  omega

theorem ed_across {v k w : Int} {g : Nat} (hv : okF v = true) (hk : 0 ≤ k ∧ k ≤ 2) (hw : 0 ≤ w ∧ w ≤ 840) (hg : g < 20) (h : hasAB v k g = true) : ∃ x ∈ addrK (edP v k w) 20, x.f = (g : Int) := by
  have hgf : okF (g : Int) = true := okF_iff.2 (by omega)
  have hok : okP (onP (g : Int) (wt (edP v k w))) = true := by
    rw [ok_patt (ed_ok hv hk hw) hgf]
    obtain ⟨i1, i2, i3⟩ := corI_in v
    have ha : (c3 (corI g)).any (fun x => x == edA v k) = true := by unfold hasAB at h; rw [Bool.and_eq_true] at h; exact h.1
    have hb : (c3 (corI g)).any (fun x => x == edB v k) = true := by unfold hasAB at h; rw [Bool.and_eq_true, Bool.and_eq_true] at h; exact h.2.1
    rcases ed_k hk with rfl | rfl | rfl
    · have a1 := inC_any i2.1 ha
      have b1 := inC_any i3.1 hb
      rw [ed0]; unfold patt; dsimp only; rw [a1, b1]; simp
    · have a1 := inC_any i3.1 ha
      have b1 := inC_any i1.1 hb
      rw [ed1]; unfold patt; dsimp only; rw [a1, b1]; simp
    · have a1 := inC_any i1.1 ha
      have b1 := inC_any i2.1 hb
      rw [ed2]; unfold patt; dsimp only; rw [a1, b1]; simp
  refine ⟨onP (g : Int) (wt (edP v k w)), ?_, rfl⟩
  simp only [addrK, List.mem_filter, List.mem_map, List.mem_range]
  exact ⟨⟨g, hg, rfl⟩, hok⟩

theorem onP_at {g : Int} {W : Nat → Int} {m : Nat} {u y : Int} (h1 : (c3 (corI g))[m]? = some u) (h2 : [(onP g W).a, (onP g W).b, (onP g W).c][m]? = some y) : y = W u.toNat := by
  have : m = 0 ∨ m = 1 ∨ m = 2 := by
    have := (List.getElem?_eq_some_iff.1 h1).1
    have : m < 3 := this
    omega
  rcases this with rfl | rfl | rfl
  · obtain rfl := Option.some.inj h1; obtain rfl := Option.some.inj h2; rfl
  · obtain rfl := Option.some.inj h1; obtain rfl := Option.some.inj h2; rfl
  · obtain rfl := Option.some.inj h1; obtain rfl := Option.some.inj h2; rfl

theorem mem_onP {p x : Pl} (hx : x ∈ addrK p 20) : x = onP x.f (wt p) := by
  simp only [addrK, List.mem_filter, List.mem_map, List.mem_range] at hx
  obtain ⟨⟨k, hk, rfl⟩, hok⟩ := hx
  rfl
end Go.Vi

/- Minutes and months, in plain Lean. -/
namespace Go.Vi
/-- Days of February. -/
def feb (y : Int) : Int := if y % 4 = 0 then 29 else 28
/-- Days of the months before a month. -/
def cumD (y m : Int) : Int :=
  if m ≤ 1 then 0 else if m = 2 then 31 else if m = 3 then 31 + feb y else if m = 4 then 62 + feb y else if m = 5 then 92 + feb y else if m = 6 then 123 + feb y else
  if m = 7 then 153 + feb y else if m = 8 then 184 + feb y else if m = 9 then 215 + feb y else if m = 10 then 245 + feb y else if m = 11 then 276 + feb y else if m = 12 then 306 + feb y else 337 + feb y
def dysF (y m : Int) : Int := if m = 4 ∨ m = 6 ∨ m = 9 ∨ m = 11 then 30 else if m = 2 then feb y else 31
def yrD (y : Int) : Int := 365 * (y - 2000) + (y - 2000 + 3) / 4
def befF (y m : Int) : Int := 1440 * (yrD y + cumD y m)
structure IsM (t y m : Int) : Prop where
  y1 : 2000 ≤ y
  y2 : y ≤ 2099
  m1 : 1 ≤ m
  m2 : m ≤ 12
  lo : befF y m ≤ t
  hi : t < befF y (m + 1)
theorem feb_in (y : Int) : 28 ≤ feb y ∧ feb y ≤ 29 := by unfold feb; split <;> omega
theorem m12 {m : Int} (h1 : 1 ≤ m) (h2 : m ≤ 12) : m = 1 ∨ m = 2 ∨ m = 3 ∨ m = 4 ∨ m = 5 ∨ m = 6 ∨ m = 7 ∨ m = 8 ∨ m = 9 ∨ m = 10 ∨ m = 11 ∨ m = 12 := by omega
theorem cum_succ {y m : Int} (h1 : 1 ≤ m) (h2 : m ≤ 12) : cumD y (m + 1) = cumD y m + dysF y m := by
  have := feb_in y
  rcases m12 h1 h2 with rfl | rfl | rfl | rfl | rfl | rfl | rfl | rfl | rfl | rfl | rfl | rfl <;> simp [cumD, dysF] <;> omega
theorem dys_in (y m : Int) : 28 ≤ dysF y m ∧ dysF y m ≤ 31 := by
  have := feb_in y
  unfold dysF
  split
  · omega
  · split <;> omega
theorem cum_mono {y : Int} : ∀ (k : Nat) {m : Int}, 1 ≤ m → m + k ≤ 13 → cumD y m ≤ cumD y (m + k)
  | 0, m, _, _ => by simp
  | k + 1, m, h1, h2 => by
    have h := cum_mono (y := y) k h1 (by omega)
    have e := cum_succ (y := y) (m := m + k) (by omega) (by omega)
    have := dys_in y (m + k)
    rw [show (m + ((k + 1 : Nat) : Int)) = m + k + 1 by omega, e]
    omega
theorem cum_le {y m m' : Int} (h1 : 1 ≤ m) (h2 : m ≤ m') (h3 : m' ≤ 13) : cumD y m ≤ cumD y m' := by
  have := cum_mono (y := y) (m' - m).toNat h1 (by omega)
  rwa [show m + ((m' - m).toNat : Int) = m' by omega] at this
theorem cum_1 (y : Int) : cumD y 1 = 0 := by unfold cumD; rw [if_pos (by omega)]
theorem cum_13 (y : Int) : cumD y 13 = 337 + feb y := by unfold cumD; simp
theorem yr_succ {y : Int} : yrD (y + 1) = yrD y + 337 + feb y := by
  unfold yrD feb
  split <;> omega
theorem yr_mono : ∀ (k : Nat) (y : Int), yrD y ≤ yrD (y + k)
  | 0, y => by simp
  | k + 1, y => by
    have h := yr_mono k y
    have := yr_succ (y := y + k)
    have := feb_in (y + k)
    rw [show (y + ((k + 1 : Nat) : Int)) = y + k + 1 by omega]
    omega
theorem yr_le {y y' : Int} (h : y ≤ y') : yrD y ≤ yrD y' := by
  have := yr_mono (y' - y).toNat y
  rwa [show y + ((y' - y).toNat : Int) = y' by omega] at this
theorem bef_year {t y m : Int} (h : IsM t y m) : 1440 * yrD y ≤ t ∧ t < 1440 * yrD (y + 1) := by
  obtain ⟨_, _, m1, m2, lo, hi⟩ := h
  have h1 := cum_le (y := y) (m := 1) (m' := m) (by omega) (by omega) (by omega)
  have h2 := cum_le (y := y) (m := m + 1) (m' := 13) (by omega) (by omega) (by omega)
  rw [cum_1] at h1
  rw [cum_13] at h2
  rw [yr_succ]
  unfold befF at lo hi
  omega
theorem IsM.uniq {t y m y' m' : Int} (h : IsM t y m) (h' : IsM t y' m') : y = y' ∧ m = m' := by
  have a := bef_year h
  have b := bef_year h'
  have hy : y = y' := by
    rcases Int.lt_trichotomy y y' with hl | hl | hl
    · have := yr_le (show y + 1 ≤ y' by omega); omega
    · exact hl
    · have := yr_le (show y' + 1 ≤ y by omega); omega
  subst hy
  refine ⟨rfl, ?_⟩
  obtain ⟨_, _, m1, m2, lo, hi⟩ := h
  obtain ⟨_, _, m1', m2', lo', hi'⟩ := h'
  unfold befF at lo hi lo' hi'
  rcases Int.lt_trichotomy m m' with hl | hl | hl
  · have := cum_le (y := y) (m := m + 1) (m' := m') (by omega) (by omega) (by omega); omega
  · exact hl
  · have := cum_le (y := y) (m := m' + 1) (m' := m) (by omega) (by omega) (by omega); omega
open Classical in
/-- The month of a minute. -/
noncomputable def monF (t : Int) : Int := if h : ∃ m, ∃ y, IsM t y m then h.choose else 0
theorem monF_eq {t y m : Int} (h : IsM t y m) : monF t = m := by
  have he : ∃ m, ∃ y, IsM t y m := ⟨m, y, h⟩
  unfold monF
  rw [dif_pos he]
  obtain ⟨y', h'⟩ := he.choose_spec
  exact (h'.uniq h).2
theorem monF_no {t : Int} (h : ¬ (0 ≤ t ∧ t ≤ 52595999)) : monF t = 0 := by
  unfold monF
  rw [dif_neg]
  rintro ⟨m, y, hm⟩
  have a := bef_year hm
  have y1 := yr_le hm.y1
  have y2 := yr_le (show y + 1 ≤ 2100 by have := hm.y2; omega)
  have e1 : yrD 2000 = 0 := by decide
  have e2 : yrD 2100 = 36525 := by decide
  omega
/-- A date's error. -/
def datE (t : Int) : Int := if 0 ≤ t ∧ t ≤ 52595999 then 0 else 1
theorem mon_in {t : Int} (h : monF t ≠ 0) : 1 ≤ monF t ∧ monF t ≤ 12 := by
  unfold monF at h ⊢
  split at h
  · rename_i he
    rw [dif_pos he]
    obtain ⟨y, hy⟩ := he.choose_spec
    exact ⟨hy.m1, hy.m2⟩
  · exact absurd rfl h
/-- The year, found. -/
theorem isM_of {t y m : Int} (h1 : 2000 ≤ y) (h2 : y ≤ 2099) (h3 : 1 ≤ m) (h4 : m ≤ 12) (h5 : 1440 * (yrD y + cumD y m) ≤ t) (h6 : m < 12 → t < 1440 * (yrD y + cumD y (m + 1))) (h7 : t < 1440 * yrD (y + 1)) : IsM t y m := by
  refine ⟨h1, h2, h3, h4, h5, ?_⟩
  unfold befF
  by_cases hm : m < 12
  · exact h6 hm
  · have : m = 12 := by omega
    subst this
    rw [yr_succ] at h7
    rw [show (12 : Int) + 1 = 13 from rfl, cum_13]
    omega
def lens (y : Int) : List Int := [31, feb y, 31, 30, 31, 30, 31, 31, 30, 31, 30, 31]
theorem lens_get {y : Int} {i : Nat} {x : Int} (h : (lens y)[i]? = some x) : i < 12 ∧ x = dysF y (i + 1) := by
  rcases i with _ | _ | _ | _ | _ | _ | _ | _ | _ | _ | _ | _ | i
  all_goals first
    | (obtain rfl := Option.some.inj h; exact ⟨by omega, by simp [dysF]⟩)
    | (cases h)
end Go.Vi

/- Climates, in plain Lean. -/
set_option linter.unusedSimpArgs false
namespace Go.Vi
def ltN (a b : Nrm) : Prop := a.el < b.el ∨ (a.el = b.el ∧ (a.fa < b.fa ∨ (a.fa = b.fa ∧ a.mo < b.mo)))
instance (a b : Nrm) : Decidable (ltN a b) := by unfold ltN; infer_instance
def eqN (a b : Nrm) : Prop := a.el = b.el ∧ a.fa = b.fa ∧ a.mo = b.mo
def cmpN (a b : Nrm) : Int := orF [cmpI a.el b.el, cmpI a.fa b.fa, cmpI a.mo b.mo]
theorem cmpN_lt {a b : Nrm} : cmpN a b < 0 ↔ ltN a b := by
  unfold cmpN ltN cmpI
  simp only [orF]
  repeat' split
  all_goals omega
theorem cmpN_eq {a b : Nrm} : cmpN a b = 0 ↔ eqN a b := by
  unfold cmpN eqN cmpI
  simp only [orF]
  repeat' split
  all_goals omega
theorem ltN_tr (a b c : Nrm) (h1 : decide (ltN a b) = true) (h2 : decide (ltN b c) = true) : decide (ltN a c) = true := by
  simp only [decide_eq_true_eq] at *
  unfold ltN at *
  omega
def ascN (l : List Nrm) : Bool := ascG (fun a b => decide (ltN a b)) l
def exI (c : Int) : Bool := (dscF c).2 == 0
theorem exI_iff {c : Int} : exI c = true ↔ 1 ≤ c ∧ c ≤ 11 := by
  unfold exI dscF
  split <;> simp [*]
def valN (n : Nrm) : Bool := decide (0 ≤ n.fa) && (decide (n.fa < 20) && (decide (1 ≤ n.mo) && (decide (n.mo ≤ 12) && (decide (-10000 ≤ n.me) && (decide (n.me ≤ 20000) && (decide (0 ≤ n.sp) && decide (n.sp ≤ 20000)))))))
structure ValN (n : Nrm) : Prop where
  f1 : 0 ≤ n.fa
  f2 : n.fa < 20
  m1 : 1 ≤ n.mo
  m2 : n.mo ≤ 12
  e1 : -10000 ≤ n.me
  e2 : n.me ≤ 20000
  s1 : 0 ≤ n.sp
  s2 : n.sp ≤ 20000
theorem valN_iff {n : Nrm} : valN n = true ↔ ValN n := by
  unfold valN
  simp only [Bool.and_eq_true, decide_eq_true_eq]
  exact ⟨fun ⟨a, b, c, d, e, f, g, h⟩ => ⟨a, b, c, d, e, f, g, h⟩, fun ⟨a, b, c, d, e, f, g, h⟩ => ⟨a, b, c, d, e, f, g, h⟩⟩
def cvF (l : List Nrm) : Int := if l.length > 200 then 2 else if l.any (fun n => !exI n.el) then 4 else if l.any (fun n => !valN n) then 1 else if ascN l then 0 else 8
theorem cvF_0 {l : List Nrm} : cvF l = 0 ↔ l.length ≤ 200 ∧ (∀ n ∈ l, exI n.el = true) ∧ (∀ n ∈ l, valN n = true) ∧ ascN l = true := by
  unfold cvF
  constructor
  · intro h
    split at h
    · cases h
    · split at h
      · cases h
      · rename_i h1 h2
        split at h
        · cases h
        · rename_i h3
          split at h
          · rename_i h4
            simp only [List.any_eq_true, not_exists, not_and, Bool.not_eq_true', Bool.not_eq_false] at h2 h3
            exact ⟨by omega, h2, h3, h4⟩
          · cases h
  · rintro ⟨h1, h2, h3, h4⟩
    rw [if_neg (by omega), if_neg, if_neg, if_pos h4]
    · simp only [List.any_eq_true, not_exists, not_and, Bool.not_eq_true', Bool.not_eq_false]; exact h3
    · simp only [List.any_eq_true, not_exists, not_and, Bool.not_eq_true', Bool.not_eq_false]; exact h2
/-- The normal that a question is about. -/
def keyN (code fa mo : Int) : Nrm := ⟨code, fa, mo, 0, 0⟩
def isN (code fa mo : Int) (n : Nrm) : Bool := n.el == code && (n.fa == fa && n.mo == mo)
theorem isN_iff {code fa mo : Int} {n : Nrm} : isN code fa mo n = true ↔ eqN n (keyN code fa mo) := by
  unfold isN eqN keyN
  simp
noncomputable def lookF (l : List Nrm) (code : Int) (p : Pl) (t : Int) : Nrm × Int :=
  if cvF l ≠ 0 then (⟨0, 0, 0, 0, 0⟩, cvF l) else if (nrmF p).2 ≠ 0 ∨ datE t ≠ 0 then (⟨0, 0, 0, 0, 0⟩, 1) else
  match l.find? (isN code (nrmF p).1.f (monF t)) with
  | some n => (n, 0)
  | none => (⟨0, 0, 0, 0, 0⟩, 9)
theorem cutsN {l : List Nrm} (h : ascN l = true) (t : Nrm) : Cuts (fun a => cmpN a t) l := by
  intro i j x y hij hx hy h0
  by_cases e : i = j
  · subst e; rw [hx] at hy; obtain rfl := Option.some.inj hy; exact h0
  · have := ascG_lt ltN_tr h (show i < j by omega) hx hy
    simp only [decide_eq_true_eq] at this
    have h1 : ¬ ltN x t := by rw [← cmpN_lt]; dsimp only at h0; omega
    have : ¬ ltN y t := by unfold ltN at *; omega
    rw [← cmpN_lt] at this
    show 0 ≤ cmpN y t
    omega
/-- What is found by halves is what is found from the beginning. -/
theorem hit_find {l : List Nrm} (h : ascN l = true) {code fa mo : Int} {i : Nat} (hc : Cut (fun a => cmpN a (keyN code fa mo)) l i) :
    (hitG (fun a => cmpN a (keyN code fa mo)) l i = false ∧ l.find? (isN code fa mo) = none) ∨ (hitG (fun a => cmpN a (keyN code fa mo)) l i = true ∧ i < l.length ∧ ∀ x, l[i]? = some x → l.find? (isN code fa mo) = some x) := by
  have hne : ∀ (j : Nat) (x : Nrm), j < i → l[j]? = some x → isN code fa mo x = false := by
    intro j x hj hx
    have := hc.lt j x hj hx
    cases hn : isN code fa mo x with
    | false => rfl
    | true => rw [isN_iff, ← cmpN_eq] at hn; omega
  cases hi : l[i]? with
  | none =>
    left
    refine ⟨by unfold hitG; rw [hi], ?_⟩
    rw [List.find?_eq_none]
    intro x hx
    obtain ⟨j, hj⟩ := List.mem_iff_getElem?.1 hx
    have := (List.getElem?_eq_some_iff.1 hj).1
    rw [hne j x (by rw [List.getElem?_eq_none_iff] at hi; omega) hj]
    simp
  | some y =>
    have hlt := (List.getElem?_eq_some_iff.1 hi).1
    by_cases hy : cmpN y (keyN code fa mo) = 0
    · right
      refine ⟨by unfold hitG; rw [hi]; simp [hy], hlt, fun x hx => ?_⟩
      obtain rfl := Option.some.inj hx
      rw [List.find?_eq_some_iff_getElem]
      refine ⟨by rw [isN_iff, ← cmpN_eq]; exact hy, i, hlt, (List.getElem?_eq_some_iff.1 hi).2, fun j hj => ?_⟩
      rw [hne j _ hj (List.getElem?_eq_getElem (by omega))]
      simp
    · left
      refine ⟨by unfold hitG; rw [hi]; simp [hy], ?_⟩
      rw [List.find?_eq_none]
      intro x hx
      obtain ⟨j, hj⟩ := List.mem_iff_getElem?.1 hx
      by_cases hji : j < i
      · rw [hne j x hji hj]; simp
      · by_cases e : j = i
        · subst e
          rw [hi] at hj
          obtain rfl := Option.some.inj hj
          rw [isN_iff, ← cmpN_eq]
          exact hy
        · have h1 := ascG_lt ltN_tr h (show i < j by omega) hi hj
          simp only [decide_eq_true_eq] at h1
          have h2 := hc.ge i y (Nat.le_refl _) hi
          rw [isN_iff]
          intro h3
          have h4 : ¬ ltN y (keyN code fa mo) := by rw [← cmpN_lt]; omega
          unfold eqN at h3
          unfold ltN at h1 h4
          omega
end Go.Vi
namespace Go.Vi
/-! ### the season's check -/
noncomputable def seaE (c : List Nrm) (r : Rep) : Int := if cvF c ≠ 0 then cvF c else if valF r.rd ≠ 0 then valF r.rd else if okP r.pl = true ∧ datE r.time = 0 then 0 else 1
noncomputable def seaR (c : List Nrm) (r : Rep) (x : I2) : Bool :=
  (lookF c x.x r.pl r.time).2 == 0 && (decide (x.y - (lookF c x.x r.pl r.time).1.me > (lookF c x.x r.pl r.time).1.sp) || decide ((lookF c x.x r.pl r.time).1.me - x.y > (lookF c x.x r.pl r.time).1.sp))
noncomputable def seaK (c : List Nrm) (r : Rep) (l : List I2) : List Int := (l.filter (seaR c r)).map (·.x)
noncomputable def seaL (c : List Nrm) (r : Rep) : List Int := if seaE c r = 0 then seaK c r r.rd else []
noncomputable def farF (c : List Nrm) (r : Rep) (code : Int) : Int × Bool :=
  if seaE c r = 0 ∧ (findF r.rd code).2 = true ∧ (lookF c code r.pl r.time).2 = 0 then ((findF r.rd code).1 - (lookF c code r.pl r.time).1.me, true) else (0, false)
theorem val_all {l : List I2} (h : valF l = 0) : ∀ x ∈ l, (dscF x.x).2 = 0 ∧ (dscF x.x).1.x ≤ x.y ∧ x.y ≤ (dscF x.x).1.y := by
  unfold valF at h
  split at h
  · cases h
  · rename_i h4
    split at h
    · cases h
    · rename_i h1
      intro x hx
      simp only [List.any_eq_true, not_exists, not_and, beq_iff_eq] at h4 h1
      rcases chk_cases x with ⟨_, e⟩ | ⟨_, _, e⟩ | ⟨e1, e2, _⟩
      · exact absurd e (h4 x hx)
      · exact absurd e (h1 x hx)
      · exact ⟨e1, e2⟩
theorem dsc_in {c : Int} (h : (dscF c).2 = 0) : 1 ≤ c ∧ c ≤ 11 := by
  unfold dscF at h
  split at h
  · assumption
  · cases h
theorem dsc_b (c : Int) : -1000 ≤ (dscF c).1.x ∧ (dscF c).1.y ≤ 11000 ∧ (dscF c).1.x ≤ (dscF c).1.y := by
  unfold dscF
  split
  · rename_i h
    have : c = 1 ∨ c = 2 ∨ c = 3 ∨ c = 4 ∨ c = 5 ∨ c = 6 ∨ c = 7 ∨ c = 8 ∨ c = 9 ∨ c = 10 ∨ c = 11 := by omega
    rcases this with rfl | rfl | rfl | rfl | rfl | rfl | rfl | rfl | rfl | rfl | rfl <;> decide
  · decide
theorem val_bnd {l : List I2} (h : valF l = 0) {x : I2} (hx : x ∈ l) : -1000 ≤ x.y ∧ x.y ≤ 11000 := by
  obtain ⟨_, h1, h2⟩ := val_all h x hx
  obtain ⟨b1, b2, _⟩ := dsc_b x.x
  omega
theorem look_0 {c : List Nrm} {code : Int} {p : Pl} {t : Int} (h : (lookF c code p t).2 = 0) : cvF c = 0 ∧ (lookF c code p t).1 ∈ c ∧ isN code (nrmF p).1.f (monF t) (lookF c code p t).1 = true := by
  unfold lookF at h ⊢
  split at h
  · rename_i h1; exact absurd h h1
  · rename_i h1
    have h1 : cvF c = 0 := by omega
    split at h
    · cases h
    · rename_i h2
      rw [if_neg (by omega), if_neg h2]
      split at h
      · rename_i n hn
        exact ⟨h1, List.mem_of_find?_eq_some hn, List.find?_some hn⟩
      · cases h
theorem look_bnd {c : List Nrm} {code : Int} {p : Pl} {t : Int} : -10000 ≤ (lookF c code p t).1.me ∧ (lookF c code p t).1.me ≤ 20000 ∧ 0 ≤ (lookF c code p t).1.sp ∧ (lookF c code p t).1.sp ≤ 20000 := by
  by_cases h : (lookF c code p t).2 = 0
  · obtain ⟨h1, h2, _⟩ := look_0 h
    obtain ⟨_, _, h3, _⟩ := cvF_0.1 h1
    have := valN_iff.1 (h3 _ h2)
    exact ⟨this.e1, this.e2, this.s1, this.s2⟩
  · have : (lookF c code p t).1 = ⟨0, 0, 0, 0, 0⟩ := by
      unfold lookF at h ⊢
      split at h
      · rename_i h1; rw [if_pos h1]
      · rename_i h1
        rw [if_neg h1]
        split at h
        · rename_i h2; rw [if_pos h2]
        · rename_i h2
          rw [if_neg h2]
          split at h
          · exact absurd rfl h
          · rfl
    rw [this]
    dsimp only
    omega
theorem find_mem {l : List I2} {c : Int} (h : (findF l c).2 = true) : ∃ x ∈ l, x.x = c ∧ (findF l c).1 = x.y := by
  unfold findF at h ⊢
  split at h
  · rename_i r hr
    exact ⟨r, List.mem_of_find?_eq_some hr, by simpa using List.find?_some hr, rfl⟩
  · cases h
theorem seaK_take (c : List Nrm) (r : Rep) (l : List I2) (i : Nat) {x : I2} (h : l[i]? = some x) : seaK c r (l.take (i + 1)) = seaK c r (l.take i) ++ (if seaR c r x then [x.x] else []) := by
  rw [List.take_add_one, h]
  unfold seaK
  rw [List.filter_append, List.map_append]
  congr 1
  simp only [Option.toList, List.filter_cons, List.filter_nil]
  split <;> rfl
theorem seaK_len (c : List Nrm) (r : Rep) (l : List I2) : (seaK c r l).length ≤ l.length := by
  unfold seaK
  rw [List.length_map]
  exact List.length_filter_le _ _
end Go.Vi
namespace Go.Vi
theorem seaR_max {c : List Nrm} {r : Rep} {x : I2} (h : (lookF c x.x r.pl r.time).2 = 0) : decide ((if (lookF c x.x r.pl r.time).1.me - x.y > x.y - (lookF c x.x r.pl r.time).1.me then (lookF c x.x r.pl r.time).1.me - x.y else x.y - (lookF c x.x r.pl r.time).1.me) > (lookF c x.x r.pl r.time).1.sp) = seaR c r x := by
  unfold seaR
  rw [h, Bool.eq_iff_iff]
  simp only [decide_eq_true_eq, beq_self_eq_true, Bool.true_and, Bool.or_eq_true]
  split <;> omega
theorem seaR_no {c : List Nrm} {r : Rep} {x : I2} (h : (lookF c x.x r.pl r.time).2 ≠ 0) : seaR c r x = false := by
  unfold seaR
  simp [h]
theorem seaR_1 {c : List Nrm} {r : Rep} {x : I2} (h : (lookF c x.x r.pl r.time).2 = 0) (h1 : x.y - (lookF c x.x r.pl r.time).1.me > (lookF c x.x r.pl r.time).1.sp) : seaR c r x = true := by
  unfold seaR
  simp [h, h1]
theorem seaR_2 {c : List Nrm} {r : Rep} {x : I2} (h : (lookF c x.x r.pl r.time).2 = 0) (h1 : (lookF c x.x r.pl r.time).1.me - x.y > (lookF c x.x r.pl r.time).1.sp) : seaR c r x = true := by
  unfold seaR
  simp [h, h1]
theorem seaR_3 {c : List Nrm} {r : Rep} {x : I2} (h1 : ¬ x.y - (lookF c x.x r.pl r.time).1.me > (lookF c x.x r.pl r.time).1.sp) (h2 : ¬ (lookF c x.x r.pl r.time).1.me - x.y > (lookF c x.x r.pl r.time).1.sp) : seaR c r x = false := by
  unfold seaR
  simp [h1, h2]
theorem seaE_0 {c : List Nrm} {r : Rep} : seaE c r = 0 ↔ cvF c = 0 ∧ valF r.rd = 0 ∧ okP r.pl = true ∧ datE r.time = 0 := by
  unfold seaE
  constructor
  · intro h
    split at h
    · rename_i h1; exact absurd h h1
    · split at h
      · rename_i h1; exact absurd h h1
      · split at h
        · rename_i h1 h2 h3; exact ⟨by omega, by omega, h3⟩
        · cases h
  · rintro ⟨h1, h2, h3⟩
    rw [if_neg (by omega), if_neg (by omega), if_pos h3]
theorem seaK_t {c : List Nrm} {r : Rep} {i : Nat} {x : I2} {l : List Int} (hx : r.rd[i]? = some x) (hl : seaK c r (r.rd.take i) = l) (h : seaR c r x = true) : seaK c r (r.rd.take (i + 1)) = l ++ [x.x] := by
  rw [seaK_take c r r.rd i hx, hl, if_pos h]
theorem seaK_f {c : List Nrm} {r : Rep} {i : Nat} {x : I2} {l : List Int} (hx : r.rd[i]? = some x) (hl : seaK c r (r.rd.take i) = l) (h : seaR c r x = false) : seaK c r (r.rd.take (i + 1)) = l := by
  rw [seaK_take c r r.rd i hx, hl, if_neg (by simp [h]), List.append_nil]
theorem seaK_bnd (c : List Nrm) (r : Rep) (i : Nat) : (seaK c r (r.rd.take i)).length ≤ i := by
  have h1 := seaK_len c r (r.rd.take i)
  rw [List.length_take] at h1
  omega
theorem far_no {c : List Nrm} {r : Rep} {k : Int} (h : ¬ (seaE c r = 0 ∧ (findF r.rd k).2 = true ∧ (lookF c k r.pl r.time).2 = 0)) : farF c r k = (0, false) := by
  unfold farF
  rw [if_neg h]
theorem find_bnd {l : List I2} (h : valF l = 0) (c : Int) : -1000 ≤ (findF l c).1 ∧ (findF l c).1 ≤ 11000 := by
  cases hf : (findF l c).2 with
  | true =>
    obtain ⟨x, h1, _, h2⟩ := find_mem hf
    rw [h2]
    exact val_bnd h h1
  | false =>
    unfold findF at hf ⊢
    split at hf
    · cases hf
    · dsimp only; omega
end Go.Vi

/- A law's arguments: nil slices anywhere in them are read like empty ones. -/
set_option linter.unusedSimpArgs false
namespace Go.Vi
open Go
def denN : Nat → V → V
  | 0, v => v
  | _ + 1, .nl => .fs []
  | n + 1, .agg l => .agg (l.map (denN n))
  | n + 1, .fs l => .fs (l.map (denN n))
  | _ + 1, v => v
theorem denN_flat (n : Nat) (x : V) : ∀ (k : Nat) (y : V), (denN n x).flat[k]? = some y → (denN n x).flat.length = x.flat.length ∧ ∃ m y0, x.flat[k]? = some y0 ∧ y = denN m y0 := by
  intro k y h
  cases n with
  | zero => exact ⟨rfl, 0, y, h, rfl⟩
  | succ n =>
    have one : ∀ v : V, (denN (n + 1) v).flat = [denN (n + 1) v] → v.flat = [v] → (denN (n + 1) v).flat[k]? = some y → (denN (n + 1) v).flat.length = v.flat.length ∧ ∃ m y0, v.flat[k]? = some y0 ∧ y = denN m y0 := by
      intro v e1 e2 hh
      rw [e1] at hh ⊢
      rw [e2]
      refine ⟨rfl, n + 1, v, ?_, ?_⟩
      · cases k with
        | zero => rfl
        | succ k => simp at hh
      · cases k with
        | zero => simpa using hh.symm
        | succ k => simp at hh
    cases x with
    | agg l =>
      have e : (denN (n + 1) (.agg l)).flat = l.map (denN n) := rfl
      rw [e] at h ⊢
      rw [List.getElem?_map] at h
      refine ⟨List.length_map .., n, ?_⟩
      cases hl : l[k]? with
      | none => rw [hl] at h; cases h
      | some y0 =>
        rw [hl] at h
        exact ⟨y0, hl, (Option.some.inj h).symm⟩
    | _ => exact one _ rfl rfl h
theorem denN_len (n : Nat) (x : V) : (denN n x).flat.length = x.flat.length := by
  cases n with
  | zero => rfl
  | succ n =>
    cases x with
    | agg l => exact List.length_map ..
    | _ => rfl
theorem RV.denN {P : Program} {H : Hp} : ∀ {β : Bt} {v : V} {u : Value}, RV P H β v u → ∀ n, RV P H β (denN n v) u := by
  intro β v u h
  induction h with
  | agg β l cs hn hc ih =>
    intro n
    cases n with
    | zero => exact .agg _ _ _ hn hc
    | succ n =>
      refine .agg _ _ _ (by rw [List.length_map]; exact hn) fun k y u hy hu => ?_
      rw [List.getElem?_map] at hy
      cases hl : l[k]? with
      | none => rw [hl] at hy; cases hy
      | some y0 =>
        rw [hl] at hy
        obtain rfl := Option.some.inj hy
        exact ih k y0 u hl hu n
  | nl β =>
    intro n
    cases n with
    | zero => exact .nl ..
    | succ n => exact .fs0 ..
  | fs0 β A cap =>
    intro n
    cases n with
    | zero => exact .fs0 ..
    | succ n => exact .fs0 ..
  | fs β l b off es cap arr ty fr h1 h2 h3 h4 h5 ih =>
    intro n
    cases n with
    | zero => exact .fs _ _ _ _ _ _ _ _ _ h1 h2 h3 h4 h5
    | succ n =>
      have key := RV.fs (P := P) (H := H) β (l.map (Go.Vi.denN n)) b off es cap arr ty fr (by rw [List.length_map]; exact h1) h2 (by rw [List.length_map]; exact h3)
        (fun j x hx => by
          rw [List.getElem?_map] at hx
          cases hl : l[j]? with
          | none => rw [hl] at hx; cases hx
          | some x0 =>
            rw [hl] at hx
            obtain rfl := Option.some.inj hx
            rw [denN_len]
            exact h4 j x0 hl)
        (fun j x hx k y u hy hu => by
          rw [List.getElem?_map] at hx
          cases hl : l[j]? with
          | none => rw [hl] at hx; cases hx
          | some x0 =>
            rw [hl] at hx
            obtain rfl := Option.some.inj hx
            obtain ⟨_, m, y0, hy0, rfl⟩ := denN_flat n x0 k y hy
            exact ih j x0 hl k y0 u hy0 hu m)
      rw [List.length_map] at key
      exact key
  | junk => intro n; cases n <;> exact .junk ..
  | int => intro n; cases n <;> exact .int ..
  | bool => intro n; cases n <;> exact .bool ..
  | str => intro n; cases n <;> exact .str ..
  | tup β l cs hn hc => intro n; cases n <;> exact .tup _ _ _ hn hc
  | lp β id off b sz h => intro n; cases n <;> exact .lp _ _ _ _ _ h
  | sl β id off n e x b sz es cap h1 h2 h3 h4 h5 => intro n; cases n <;> exact .sl _ _ _ _ _ _ _ _ _ _ h1 h2 h3 h4 h5
  | sl0 => intro n; cases n <;> exact .sl0 ..
  | e0 => intro n; cases n <;> exact .e0 ..
  | fp β cells off b base arr ty fr h1 h2 h3 => intro n; cases n <;> exact .fp _ _ _ _ _ _ _ _ h1 h2 h3
  | fn β f caps cs hn hc => intro n; cases n <;> exact .fn _ _ _ _ hn hc
theorem Con.denN {P : Program} {E : Env} {f : FuncId} {xs : List V} {bo bo' ro : List Ob} {r : V} (n : Nat) (h : Con P E f (xs.map (Go.Vi.denN n)) bo r bo' ro) : Con P E f xs bo r bo' ro := by
  intro H β w vs h1 h2 h3 h4
  refine h H β w vs h1 h2 h3 ⟨by rw [List.length_map]; exact h4.1, fun k y u hy hu => ?_⟩
  rw [List.getElem?_map] at hy
  cases hx : xs[k]? with
  | none => rw [hx] at hy; cases hy
  | some x =>
    rw [hx] at hy
    obtain rfl := Option.some.inj hy
    exact (h4.2 k x u hx hu).denN n
theorem SpecOk.conN (n : Nat) {P : Program} {E : Env} {f : FuncId} {pt : PT} (h : SpecOk P E f pt) {xs : List V} {r : V} (hp : pt (xs.map (Go.Vi.denN n)) [] fun r' _ _ => r' = r) : ∃ bo ro, Con P E f xs [] r bo ro := by
  obtain ⟨r', bo', ro, hc, rfl⟩ := h.2 _ _ _ hp
  exact ⟨bo', ro, hc.denN n⟩
theorem ls_ofN {w : View} {R : w.α → Prop} {n : Nat} {g : List V → V} : ∀ {yss : List (List V)}, (∀ ys ∈ yss, ∃ a, denN n (g ys) = w.enc a ∧ R a) → ∃ l : List w.α, (yss.map g).map (denN n) = w.ls l ∧ ∀ a ∈ l, R a
  | [], _ => ⟨[], rfl, fun a ha => by cases ha⟩
  | ys :: r, h => by
    obtain ⟨a, h1, h2⟩ := h ys (by simp)
    obtain ⟨l, h3, h4⟩ := ls_ofN (yss := r) fun z hz => h z (by simp [hz])
    exact ⟨a :: l, by rw [List.map_cons, List.map_cons, h1, h3]; rfl, fun b hb => by
      rcases List.mem_cons.1 hb with rfl | hb
      · exact h2
      · exact h4 b hb⟩
/-- A slice of the elements that a view tells, nil slices within them read like empty ones. -/
theorem argSlN {P : Program} {ft : Nat} {t e : TypeId} {x : V} {w : View} {R : w.α → Prop} {n : Nat} (hu : P.underlying t = some (.slice e)) (he : ∀ y, ArgT P ft e y → ∃ a, denN n y = w.enc a ∧ R a) (h : ArgT P (ft + 1) t x) : ∃ l : List w.α, denN (n + 1) x = .fs (w.ls l) ∧ ∀ a ∈ l, R a := by
  obtain ⟨ys, rfl, h⟩ := h
  simp only [HasT, hu] at h
  have hf : isAggT P t = false := by simp [isAggT, hu]
  rw [hf]
  rcases h with rfl | ⟨yss, rfl, hl, h⟩
  · exact ⟨[], rfl, fun a ha => by cases ha⟩
  · obtain ⟨l, h1, h2⟩ := ls_ofN (w := w) (R := R) (n := n) (g := fun ys => if isAggT P e then .agg ys else ys.headD .junk) (yss := yss) fun ys hy => he _ ⟨ys, rfl, h ys hy⟩
    exact ⟨l, by show denN (n + 1) (.fs _) = _; rw [← h1]; rfl, h2⟩
end Go.Vi

/- What the generators of reports give, in plain Lean. -/
set_option linter.unusedSimpArgs false
namespace Go.Vi
def nameL : List ByteArray := [⟨#[65, 76, 80, 72, 65]⟩, ⟨#[66, 82, 65, 86, 79]⟩, ⟨#[48, 49, 50, 51, 52]⟩, ⟨#[68, 69, 76, 84, 65]⟩, ⟨#[69, 67, 72, 79, 55]⟩, ⟨#[55, 55, 55, 55, 55]⟩]
structure RepOk (r : Rep) : Prop where
  k1 : 1 ≤ r.kind
  k2 : r.kind ≤ 3
  nm : r.name ∈ nameL
  t1 : 0 ≤ r.time
  t2 : r.time ≤ 52595999
  rd : valF r.rd = 0
  len : r.rd.length ≤ 11
  land : r.kind = 1 → r.pl = ⟨0, 0, 0, 0⟩
  sea : r.kind ≠ 1 → isNF r.pl = true
/-- A report at a normal place. -/
structure PlOk (r : Rep) : Prop where
  t1 : 0 ≤ r.time
  t2 : r.time ≤ 52595999
  rd : valF r.rd = 0
  len : r.rd.length ≤ 11
  pl : isNF r.pl = true
theorem asc_app : ∀ (l : List I2) (x : I2), ascF l = true → (∀ y ∈ l, y.x < x.x) → ascF (l ++ [x]) = true
  | [], x, _, _ => rfl
  | [a], x, _, h => by simp [ascF, h a (by simp)]
  | a :: b :: r, x, h, hl => by
    simp only [ascF, Bool.and_eq_true, List.cons_append] at h ⊢
    exact ⟨h.1, asc_app (b :: r) x h.2 fun y hy => hl y (List.mem_cons_of_mem _ hy)⟩
theorem val_0 {l : List I2} : valF l = 0 ↔ (∀ x ∈ l, chkF x = 0) ∧ ascF l = true := by
  unfold valF
  constructor
  · intro h
    split at h
    · cases h
    · rename_i h4
      split at h
      · cases h
      · rename_i h1
        split at h
        · rename_i ha
          refine ⟨fun x hx => ?_, ha⟩
          simp only [List.any_eq_true, not_exists, not_and, beq_iff_eq] at h4 h1
          have := h4 x hx
          have := h1 x hx
          rcases chk_cases x with ⟨_, e⟩ | ⟨_, _, e⟩ | ⟨_, _, e⟩ <;> omega
        · cases h
  · rintro ⟨h1, h2⟩
    rw [if_neg, if_neg, if_pos h2]
    · simp only [List.any_eq_true, not_exists, not_and, beq_iff_eq]
      intro x hx
      rw [h1 x hx]; omega
    · simp only [List.any_eq_true, not_exists, not_and, beq_iff_eq]
      intro x hx
      rw [h1 x hx]; omega
theorem chk_0 {x : I2} : chkF x = 0 ↔ (dscF x.x).2 = 0 ∧ (dscF x.x).1.x ≤ x.y ∧ x.y ≤ (dscF x.x).1.y := by
  rcases chk_cases x with ⟨h, e⟩ | ⟨h, h2, e⟩ | ⟨h, h2, e⟩
  · rw [e]; simp [h]
  · rw [e]
    constructor
    · intro hh; cases hh
    · rintro ⟨_, h3, h4⟩; exact absurd ⟨h3, h4⟩ h2
  · rw [e]; simp [h, h2]
theorem val_app {l : List I2} {x : I2} (h : valF l = 0) (hl : ∀ y ∈ l, y.x < x.x) (hx : chkF x = 0) : valF (l ++ [x]) = 0 := by
  rw [val_0] at h ⊢
  refine ⟨fun y hy => ?_, asc_app l x h.2 hl⟩
  rcases List.mem_append.1 hy with hy | hy
  · exact h.1 y hy
  · simp at hy; subst hy; exact hx
theorem c11 {c : Int} (h1 : 1 ≤ c) (h2 : c ≤ 11) : c = 1 ∨ c = 2 ∨ c = 3 ∨ c = 4 ∨ c = 5 ∨ c = 6 ∨ c = 7 ∨ c = 8 ∨ c = 9 ∨ c = 10 ∨ c = 11 := by omega
theorem dsc_z {c : Int} (h1 : 1 ≤ c) (h2 : c ≤ 11) : (dscF c).2 = 0 := by unfold dscF; rw [if_pos ⟨h1, h2⟩]
/-- The middle of an element's range. -/
theorem mid_ok {c v : Int} (h1 : 1 ≤ c) (h2 : c ≤ 11) (h3 : -40 ≤ v) (h4 : v ≤ 40) : (dscF c).1.x ≤ ((dscF c).1.x + (dscF c).1.y).tdiv 2 + v ∧ ((dscF c).1.x + (dscF c).1.y).tdiv 2 + v ≤ (dscF c).1.y := by
  have e : ∀ a b : Int, dscF c = (⟨a, b⟩, 0) → a ≤ (a + b).tdiv 2 + v ∧ (a + b).tdiv 2 + v ≤ b → (dscF c).1.x ≤ ((dscF c).1.x + (dscF c).1.y).tdiv 2 + v ∧ ((dscF c).1.x + (dscF c).1.y).tdiv 2 + v ≤ (dscF c).1.y := by
    intro a b hd h
    rw [hd]; exact h
  rcases c11 h1 h2 with rfl | rfl | rfl | rfl | rfl | rfl | rfl | rfl | rfl | rfl | rfl
  · exact e 8000 11000 rfl (by rw [show ((8000 : Int) + 11000).tdiv 2 = 9500 from rfl]; omega)
  · exact e 1800 3300 rfl (by rw [show ((1800 : Int) + 3300).tdiv 2 = 2550 from rfl]; omega)
  · exact e 1800 3300 rfl (by rw [show ((1800 : Int) + 3300).tdiv 2 = 2550 from rfl]; omega)
  · exact e (-1000) 1000 rfl (by rw [show ((-1000 : Int) + 1000).tdiv 2 = 0 from rfl]; omega)
  · exact e (-1000) 1000 rfl (by rw [show ((-1000 : Int) + 1000).tdiv 2 = 0 from rfl]; omega)
  · exact e 900 1700 rfl (by rw [show ((900 : Int) + 1700).tdiv 2 = 1300 from rfl]; omega)
  · exact e 2000 3200 rfl (by rw [show ((2000 : Int) + 3200).tdiv 2 = 2600 from rfl]; omega)
  · exact e 2400 3400 rfl (by rw [show ((2400 : Int) + 3400).tdiv 2 = 2900 from rfl]; omega)
  · exact e 2000 3000 rfl (by rw [show ((2000 : Int) + 3000).tdiv 2 = 2500 from rfl]; omega)
  · exact e 4400 6200 rfl (by rw [show ((4400 : Int) + 6200).tdiv 2 = 5300 from rfl]; omega)
  · exact e 2000 2900 rfl (by rw [show ((2000 : Int) + 2900).tdiv 2 = 2450 from rfl]; omega)
theorem mid_bnd {c : Int} (h1 : 1 ≤ c) (h2 : c ≤ 11) : -100000 ≤ ((dscF c).1.x + (dscF c).1.y).tdiv 2 ∧ ((dscF c).1.x + (dscF c).1.y).tdiv 2 ≤ 100000 := by
  have := mid_ok h1 h2 (show (-40 : Int) ≤ 0 by omega) (by omega)
  have := dsc_b c
  omega
theorem nrm_isNF {p : Pl} (h : okP p = true) : isNF (nrmF p).1 = true := by
  obtain ⟨q, l, hq⟩ := addrK_pos h
  have e : nrmF p = (q, 0) := by unfold nrmF; rw [if_pos h, hq]; rfl
  have hm : q ∈ addrK p 20 := by rw [hq]; simp
  have := nrm_mem h hm
  unfold isNF
  rw [e, this, e]
  simp
theorem okP_mk {f a b : Int} (h1 : 0 ≤ f) (h2 : f < 20) (h3 : 0 ≤ a) (h4 : a ≤ 840) (h5 : 0 ≤ b) (h6 : b ≤ 840 - a) : okP ⟨f, a, b, 840 - a - b⟩ = true := by
  unfold okP
  simp
  omega
theorem find_of {l : List I2} (h : valF l = 0) {x : I2} (hx : x ∈ l) : findF l x.x = (x.y, true) := by
  obtain ⟨_, ha⟩ := val_0.1 h
  obtain ⟨i, hi⟩ := List.mem_iff_getElem?.1 hx
  have : l.find? (fun r => r.x == x.x) = some x := by
    obtain ⟨hlt, he⟩ := List.getElem?_eq_some_iff.1 hi
    rw [List.find?_eq_some_iff_getElem]
    refine ⟨by simp, i, hlt, he, fun j hj => ?_⟩
    have key : ∀ (d j : Nat) (a b : I2), l[j]? = some a → l[j + 1 + d]? = some b → a.x < b.x := by
      intro d
      induction d with
      | zero => intro j a b h1 h2; exact (asc_iff l).1 ha j a b h1 h2
      | succ d ih =>
        intro j a b h1 h2
        have hl := (List.getElem?_eq_some_iff.1 h2).1
        have h3 : l[j + 1 + d]? = some l[j + 1 + d] := List.getElem?_eq_getElem (by omega)
        have := ih j a _ h1 h3
        have := (asc_iff l).1 ha (j + 1 + d) _ b h3 h2
        omega
    have := key (i - j - 1) j _ x (List.getElem?_eq_getElem (by omega)) (by rw [show j + 1 + (i - j - 1) = i by omega]; exact hi)
    simp
    omega
  unfold findF
  rw [this]
end Go.Vi

/- A climate that is learned, in plain Lean. -/
set_option linter.unusedSimpArgs false
namespace Go.Vi
theorem year_ex {t : Int} (h0 : 0 ≤ t) : ∀ (n : Nat), t < 1440 * yrD (2000 + n) → ∃ y : Int, 2000 ≤ y ∧ y < 2000 + n ∧ 1440 * yrD y ≤ t ∧ t < 1440 * yrD (y + 1)
  | 0, h => by
    rw [show ((2000 : Int) + ((0 : Nat) : Int)) = 2000 from rfl, show yrD 2000 = 0 by decide] at h
    omega
  | n + 1, h => by
    by_cases hn : t < 1440 * yrD (2000 + n)
    · obtain ⟨y, h1, h2, h3⟩ := year_ex h0 n hn
      exact ⟨y, h1, by omega, h3⟩
    · exact ⟨2000 + (n : Int), by omega, by omega, by omega, by rw [show (2000 : Int) + n + 1 = 2000 + ((n + 1 : Nat) : Int) by omega]; exact h⟩
theorem month_ex {t y : Int} (h0 : 1440 * yrD y ≤ t) : ∀ (n : Nat), n ≤ 12 → t < 1440 * (yrD y + cumD y (1 + n)) → ∃ m : Int, 1 ≤ m ∧ m < 1 + n ∧ befF y m ≤ t ∧ t < befF y (m + 1)
  | 0, _, h => by
    rw [show ((1 : Int) + ((0 : Nat) : Int)) = 1 from rfl, cum_1] at h
    omega
  | n + 1, hn, h => by
    by_cases hc : t < 1440 * (yrD y + cumD y (1 + n))
    · obtain ⟨m, h1, h2, h3⟩ := month_ex h0 n (by omega) hc
      exact ⟨m, h1, by omega, h3⟩
    · exact ⟨1 + (n : Int), by omega, by omega, by unfold befF; omega, by unfold befF; rw [show (1 : Int) + n + 1 = 1 + ((n + 1 : Nat) : Int) by omega]; exact h⟩
theorem mon_ok {t : Int} (h1 : 0 ≤ t) (h2 : t ≤ 52595999) : 1 ≤ monF t ∧ monF t ≤ 12 := by
  obtain ⟨y, y1, y2, y3, y4⟩ := year_ex h1 100 (by rw [show ((2000 : Int) + ((100 : Nat) : Int)) = 2100 from rfl, show yrD 2100 = 36525 by decide]; omega)
  obtain ⟨m, m1, m2, m3, m4⟩ := month_ex y3 12 (by omega) (by
    rw [show ((1 : Int) + ((12 : Nat) : Int)) = 13 from rfl, cum_13]
    rw [yr_succ] at y4
    omega)
  have : IsM t y m := ⟨y1, by omega, m1, by omega, m3, m4⟩
  rw [monF_eq this]
  omega
theorem nodup_len {α : Type} [DecidableEq α] : ∀ {a b : List α}, a.Nodup → (∀ x ∈ a, x ∈ b) → a.length ≤ b.length
  | [], b, _, _ => Nat.zero_le _
  | x :: a, b, hn, hs => by
    rw [List.nodup_cons] at hn
    have hx : x ∈ b := hs x (by simp)
    have h := nodup_len (a := a) (b := b.erase x) hn.2 fun y hy => by
      have : y ≠ x := fun e => hn.1 (e ▸ hy)
      exact (List.mem_erase_of_ne this).2 (hs y (by simp [hy]))
    rw [List.length_erase_of_mem hx] at h
    have := List.length_pos_of_mem hx
    simp only [List.length_cons]
    omega
noncomputable def kvOk (code fa mo : Int) (r : Rep) : Bool := (findF r.rd code).2 && (r.pl.f == fa && monF r.time == mo)
noncomputable def kvs (code fa mo : Int) (l : List Rep) : List Int := (l.filter (kvOk code fa mo)).map fun r => (findF r.rd code).1
theorem kvs_take {code fa mo : Int} {l : List Rep} {i : Nat} {r : Rep} (h : l[i]? = some r) : kvs code fa mo (l.take (i + 1)) = kvs code fa mo (l.take i) ++ (if kvOk code fa mo r then [(findF r.rd code).1] else []) := by
  rw [List.take_add_one, h]
  unfold kvs
  rw [List.filter_append, List.map_append]
  congr 1
  simp only [Option.toList, List.filter_cons, List.filter_nil]
  split <;> rfl
theorem kvs_len (code fa mo : Int) (l : List Rep) : (kvs code fa mo l).length ≤ l.length := by
  unfold kvs
  rw [List.length_map]
  exact List.length_filter_le _ _
theorem kvs_bnd {code fa mo : Int} {l : List Rep} (h : ∀ r ∈ l, PlOk r) : ∀ v ∈ kvs code fa mo l, -1000 ≤ v ∧ v ≤ 11000 := by
  intro v hv
  unfold kvs at hv
  obtain ⟨r, hr, rfl⟩ := List.mem_map.1 hv
  exact find_bnd (h r (List.mem_filter.1 hr).1).rd code
theorem sum_bnd : ∀ {l : List Int}, (∀ v ∈ l, -1000 ≤ v ∧ v ≤ 11000) → -1000 * (l.length : Int) ≤ l.sum ∧ l.sum ≤ 11000 * (l.length : Int)
  | [], _ => by simp
  | v :: l, h => by
    have h1 := h v (by simp)
    have h2 := sum_bnd (l := l) fun x hx => h x (by simp [hx])
    simp only [List.sum_cons, List.length_cons]
    push_cast
    omega
theorem mean_bnd {l : List Int} (h : ∀ v ∈ l, -1000 ≤ v ∧ v ≤ 11000) (h0 : 1 ≤ l.length) : -1000 ≤ l.sum / (l.length : Int) ∧ l.sum / (l.length : Int) ≤ 11000 := by
  obtain ⟨h1, h2⟩ := sum_bnd h
  constructor
  · rw [Int.le_ediv_iff_mul_le (by omega)]; exact h1
  · have : l.sum / (l.length : Int) < 11001 := by
      rw [Int.ediv_lt_iff_lt_mul (by omega)]; omega
    omega
structure SprOk (me : Int) (vs : List Int) (sp : Int) : Prop where
  s1 : 0 ≤ sp
  s2 : sp ≤ 12000
  all : ∀ v ∈ vs, v - me ≤ sp ∧ me - v ≤ sp
/-- What is learned so far: everything before a key. -/
structure LInv (l : List Rep) (code fa mo : Int) (c : List Nrm) : Prop where
  asc : ascN c = true
  lo : ∀ n ∈ c, ltN n (keyN code fa mo)
  ok : ∀ n ∈ c, exI n.el = true ∧ valN n = true
  bd : ∀ n ∈ c, -1000 ≤ n.me ∧ n.me ≤ 11000 ∧ n.sp ≤ 12000
  key : ∀ n ∈ c, ∃ r ∈ l, ∃ x ∈ r.rd, isN x.x r.pl.f (monF r.time) n = true
  hit : ∀ r ∈ l, ∀ x ∈ r.rd, ltN (keyN x.x r.pl.f (monF r.time)) (keyN code fa mo) → ∃ n ∈ c, isN x.x r.pl.f (monF r.time) n = true ∧ x.y - n.me ≤ n.sp ∧ n.me - x.y ≤ n.sp
theorem PlOk.face {r : Rep} (h : PlOk r) : 0 ≤ r.pl.f ∧ r.pl.f < 20 := by
  have := (isNF_ok h.pl).1
  unfold okP at this
  simp at this
  omega
theorem linv_0 {l : List Rep} (h : ∀ r ∈ l, PlOk r) : LInv l 1 0 1 [] := by
  refine ⟨rfl, fun n hn => by simp at hn, fun n hn => by simp at hn, fun n hn => by simp at hn, fun n hn => by simp at hn, fun r hr x hx hlt => ?_⟩
  have h1 := (h r hr).face
  have h2 := dsc_in (val_all (h r hr).rd x hx).1
  have h3 := mon_ok (h r hr).t1 (h r hr).t2
  unfold ltN keyN at hlt
  dsimp only at hlt
  omega
theorem linv_same {l : List Rep} {a b c a' b' c' : Int} {cl : List Nrm} (h : LInv l a b c cl) (h1 : ∀ n : Nrm, ltN n (keyN a b c) → ltN n (keyN a' b' c'))
    (h2 : ∀ r ∈ l, ∀ x ∈ r.rd, ltN (keyN x.x r.pl.f (monF r.time)) (keyN a' b' c') → ltN (keyN x.x r.pl.f (monF r.time)) (keyN a b c)) : LInv l a' b' c' cl :=
  ⟨h.asc, fun n hn => h1 n (h.lo n hn), h.ok, h.bd, h.key, fun r hr x hx hlt => h.hit r hr x hx (h2 r hr x hx hlt)⟩
theorem linv_skip {l : List Rep} (hl : ∀ r ∈ l, PlOk r) {code fa mo : Int} {c : List Nrm} (h : LInv l code fa mo c) (h0 : kvs code fa mo l = []) : LInv l code fa (mo + 1) c := by
  refine linv_same h (fun n hn => by unfold ltN keyN at *; dsimp only at *; omega) fun r hr x hx hlt => ?_
  by_cases e : x.x = code ∧ r.pl.f = fa ∧ monF r.time = mo
  · exfalso
    obtain ⟨e1, e2, e3⟩ := e
    have hf := find_of (hl r hr).rd hx
    have : (findF r.rd code).1 ∈ kvs code fa mo l := by
      unfold kvs
      refine List.mem_map.2 ⟨r, List.mem_filter.2 ⟨hr, ?_⟩, rfl⟩
      unfold kvOk
      rw [← e1, hf]
      simp [e2, e3]
    rw [h0] at this
    simp at this
  · unfold ltN keyN at *; dsimp only at *; omega
theorem linv_add {l : List Rep} (hl : ∀ r ∈ l, PlOk r) {code fa mo sp : Int} {c : List Nrm} (h : LInv l code fa mo c) (c1 : 1 ≤ code) (c2 : code ≤ 11) (f1 : 0 ≤ fa) (f2 : fa < 20) (m1 : 1 ≤ mo) (m2 : mo ≤ 12)
    (h0 : 1 ≤ (kvs code fa mo l).length) (hs : SprOk ((kvs code fa mo l).sum / ((kvs code fa mo l).length : Int)) (kvs code fa mo l) sp) :
    LInv l code fa (mo + 1) (c ++ [⟨code, fa, mo, (kvs code fa mo l).sum / ((kvs code fa mo l).length : Int), sp⟩]) := by
  have hm := mean_bnd (kvs_bnd (code := code) (fa := fa) (mo := mo) hl) h0
  refine ⟨?_, fun n hn => ?_, fun n hn => ?_, fun n hn => ?_, fun n hn => ?_, fun r hr x hx hlt => ?_⟩
  · apply ascG_of_pw
    rw [List.pairwise_append]
    refine ⟨ascG_pw ltN_tr h.asc, by simp, fun a ha b hb => ?_⟩
    simp at hb
    subst hb
    have := h.lo a ha
    simp only [decide_eq_true_eq]
    unfold ltN keyN at *
    exact this
  · rcases List.mem_append.1 hn with hn | hn
    · have := h.lo n hn
      unfold ltN keyN at *; dsimp only at *; omega
    · simp at hn; subst hn
      unfold ltN keyN; dsimp only; omega
  · rcases List.mem_append.1 hn with hn | hn
    · exact h.ok n hn
    · simp at hn; subst hn
      exact ⟨exI_iff.2 ⟨c1, c2⟩, valN_iff.2 ⟨f1, f2, m1, m2, by dsimp only; omega, by dsimp only; omega, hs.s1, by have := hs.s2; dsimp only; omega⟩⟩
  · rcases List.mem_append.1 hn with hn | hn
    · exact h.bd n hn
    · simp at hn; subst hn
      exact ⟨hm.1, hm.2, hs.s2⟩
  · rcases List.mem_append.1 hn with hn | hn
    · exact h.key n hn
    · simp at hn; subst hn
      obtain ⟨v, hv⟩ := List.exists_mem_of_length_pos h0
      unfold kvs at hv
      obtain ⟨r, hr, _⟩ := List.mem_map.1 hv
      obtain ⟨hr, hk⟩ := List.mem_filter.1 hr
      unfold kvOk at hk
      simp only [Bool.and_eq_true, beq_iff_eq] at hk
      obtain ⟨x, hx, hx1, _⟩ := find_mem hk.1
      exact ⟨r, hr, x, hx, by unfold isN; simp [hx1, hk.2.1, hk.2.2]⟩
  · by_cases e : x.x = code ∧ r.pl.f = fa ∧ monF r.time = mo
    · obtain ⟨e1, e2, e3⟩ := e
      have hf := find_of (hl r hr).rd hx
      have hmem : x.y ∈ kvs code fa mo l := by
        unfold kvs
        refine List.mem_map.2 ⟨r, List.mem_filter.2 ⟨hr, ?_⟩, by rw [← e1, hf]⟩
        unfold kvOk
        rw [← e1, hf]
        simp [e2, e3]
      obtain ⟨q1, q2⟩ := hs.all _ hmem
      exact ⟨_, List.mem_append_right _ (List.mem_singleton.2 rfl), by unfold isN; simp [e1, e2, e3], q1, q2⟩
    · obtain ⟨n, h1, h2⟩ := h.hit r hr x hx (by unfold ltN keyN at *; dsimp only at *; omega)
      exact ⟨n, List.mem_append_left _ h1, h2⟩
theorem linv_face {l : List Rep} (hl : ∀ r ∈ l, PlOk r) {code fa : Int} {c : List Nrm} (h : LInv l code fa 13 c) : LInv l code (fa + 1) 1 c := by
  refine linv_same h (fun n hn => by unfold ltN keyN at *; dsimp only at *; omega) fun r hr x hx hlt => ?_
  have h3 := mon_ok (hl r hr).t1 (hl r hr).t2
  unfold ltN keyN at *; dsimp only at *; omega
theorem linv_code {l : List Rep} (hl : ∀ r ∈ l, PlOk r) {code : Int} {c : List Nrm} (h : LInv l code 20 1 c) : LInv l (code + 1) 0 1 c := by
  refine linv_same h (fun n hn => by unfold ltN keyN at *; dsimp only at *; omega) fun r hr x hx hlt => ?_
  have h3 := (hl r hr).face
  have h4 := mon_ok (hl r hr).t1 (hl r hr).t2
  unfold ltN keyN at *; dsimp only at *; omega
theorem linv_len {l : List Rep} (hl : ∀ r ∈ l, PlOk r) (h9 : l.length ≤ 9) {a b d : Int} {c : List Nrm} (h : LInv l a b d c) : c.length ≤ 99 := by
  let K : List (Int × Int × Int) := l.flatMap fun r => r.rd.map fun x => (x.x, r.pl.f, monF r.time)
  have hK : K.length ≤ 11 * l.length := by
    have : ∀ (l : List Rep), (∀ r ∈ l, PlOk r) → (l.flatMap fun r => r.rd.map fun x => (x.x, r.pl.f, monF r.time)).length ≤ 11 * l.length := by
      intro l
      induction l with
      | nil => intro _; simp
      | cons r l ih =>
        intro hl
        have h1 := ih fun r' hr' => hl r' (by simp [hr'])
        have h2 := (hl r (by simp)).len
        rw [List.flatMap_cons, List.length_append, List.length_map, List.length_cons]
        omega
    exact this l hl
  have hn : (c.map fun n => (n.el, n.fa, n.mo)).Nodup := by
    unfold List.Nodup
    rw [List.pairwise_map]
    refine (ascG_pw ltN_tr h.asc).imp fun {a b} hab e => ?_
    simp only [decide_eq_true_eq] at hab
    simp only [Prod.mk.injEq] at e
    unfold ltN at hab
    omega
  have := nodup_len hn (b := K) fun k hk => by
    obtain ⟨n, hn, rfl⟩ := List.mem_map.1 hk
    obtain ⟨r, hr, x, hx, hi⟩ := h.key n hn
    unfold isN at hi
    simp only [Bool.and_eq_true, beq_iff_eq] at hi
    exact List.mem_flatMap.2 ⟨r, hr, List.mem_map.2 ⟨x, hx, by rw [hi.1, hi.2.1, hi.2.2]⟩⟩
  rw [List.length_map] at this
  omega
/-- What is learned. -/
structure LrnOk (l : List Rep) (c : List Nrm) : Prop where
  cv : cvF c = 0
  bd : ∀ n ∈ c, -1000 ≤ n.me ∧ n.me ≤ 11000 ∧ n.sp ≤ 12000
  hit : ∀ r ∈ l, ∀ x ∈ r.rd, ∃ n ∈ c, isN x.x r.pl.f (monF r.time) n = true ∧ x.y - n.me ≤ n.sp ∧ n.me - x.y ≤ n.sp
theorem linv_end {l : List Rep} (hl : ∀ r ∈ l, PlOk r) (h9 : l.length ≤ 9) {c : List Nrm} (h : LInv l 12 0 1 c) : LrnOk l c := by
  refine ⟨cvF_0.2 ⟨by have := linv_len hl h9 h; omega, fun n hn => (h.ok n hn).1, fun n hn => (h.ok n hn).2, h.asc⟩, h.bd, fun r hr x hx => h.hit r hr x hx ?_⟩
  have h2 := dsc_in (val_all (hl r hr).rd x hx).1
  unfold ltN keyN; dsimp only; omega
end Go.Vi
namespace Go.Vi
theorem spr_0 (me : Int) (vs : List Int) : SprOk me (vs.take 0) 0 := ⟨by omega, by omega, fun v hv => by simp at hv⟩
theorem spr_step {me : Int} {vs : List Int} {i : Nat} {v sp : Int} (h : SprOk me (vs.take i) sp) (hv : vs[i]? = some v) (b1 : -1000 ≤ v) (b2 : v ≤ 11000) (m1 : -1000 ≤ me) (m2 : me ≤ 11000) :
    SprOk me (vs.take (i + 1)) (if me - v > if v - me > sp then v - me else sp then me - v else if v - me > sp then v - me else sp) := by
  obtain ⟨h1, h2, h3⟩ := h
  have key : ∀ s : Int, (if me - v > if v - me > sp then v - me else sp then me - v else if v - me > sp then v - me else sp) = s → sp ≤ s ∧ v - me ≤ s ∧ me - v ≤ s ∧ s ≤ 12000 := by
    intro s hs
    subst hs
    repeat' split
    all_goals omega
  obtain ⟨k1, k2, k3, k4⟩ := key _ rfl
  refine ⟨by omega, k4, fun w hw => ?_⟩
  rw [List.take_add_one, hv] at hw
  rcases List.mem_append.1 hw with hw | hw
  · have := h3 w hw; omega
  · simp at hw; subst hw; omega
end Go.Vi
namespace Go.Vi
/-- A climate whose numbers may be changed a little. -/
structure NBd (n : Nrm) : Prop where
  ex : exI n.el = true
  f1 : 0 ≤ n.fa
  f2 : n.fa < 20
  m1 : 1 ≤ n.mo
  m2 : n.mo ≤ 12
  e1 : -1030 ≤ n.me
  e2 : n.me ≤ 11030
  s1 : 0 ≤ n.sp
  s2 : n.sp ≤ 12100
structure CliOk (c : List Nrm) : Prop where
  len : c.length ≤ 200
  asc : ascN c = true
  bd : ∀ n ∈ c, NBd n
theorem CliOk.cv {c : List Nrm} (h : CliOk c) : cvF c = 0 :=
  cvF_0.2 ⟨h.len, fun n hn => (h.bd n hn).ex, fun n hn => valN_iff.2 (by obtain ⟨_, _, _, _, _, _, _, _, _⟩ := h.bd n hn; exact ⟨by omega, by omega, by omega, by omega, by omega, by omega, by omega, by omega⟩), h.asc⟩
theorem LrnOk.cli {l : List Rep} {c : List Nrm} (h : LrnOk l c) : CliOk c := by
  obtain ⟨h1, h2, h3, h4⟩ := cvF_0.1 h.cv
  refine ⟨h1, h4, fun n hn => ?_⟩
  have v := valN_iff.1 (h3 n hn)
  have b := h.bd n hn
  exact ⟨h2 n hn, v.f1, v.f2, v.m1, v.m2, by omega, by omega, v.s1, by omega⟩
theorem ascN_set {c : List Nrm} {i : Nat} {n m : Nrm} (h : ascN c = true) (hi : c[i]? = some n) (h1 : m.el = n.el) (h2 : m.fa = n.fa) (h3 : m.mo = n.mo) : ascN (c.set i m) = true := by
  unfold ascN at *
  rw [ascG_iff] at *
  intro j a b ha hb
  have key : ∀ (k : Nat) (x : Nrm), (c.set i m)[k]? = some x → ∃ y, c[k]? = some y ∧ x.el = y.el ∧ x.fa = y.fa ∧ x.mo = y.mo := by
    intro k x hx
    by_cases e : i = k
    · subst e
      rw [List.getElem?_set_self (List.getElem?_eq_some_iff.1 hi).1] at hx
      obtain rfl := Option.some.inj hx
      exact ⟨n, hi, h1, h2, h3⟩
    · rw [List.getElem?_set_ne e] at hx
      exact ⟨x, hx, rfl, rfl, rfl⟩
  obtain ⟨a', ha', a1, a2, a3⟩ := key j a ha
  obtain ⟨b', hb', b1, b2, b3⟩ := key (j + 1) b hb
  have := h j a' b' ha' hb'
  simp only [decide_eq_true_eq] at *
  unfold ltN at *
  omega
theorem mem_set {α : Type} {c : List α} {i : Nat} {m x : α} (h : x ∈ c.set i m) : x = m ∨ x ∈ c := by
  obtain ⟨k, hk⟩ := List.mem_iff_getElem?.1 h
  by_cases e : i = k
  · subst e
    have hlt := (List.getElem?_eq_some_iff.1 hk).1
    rw [List.length_set] at hlt
    rw [List.getElem?_set_self hlt] at hk
    exact .inl (Option.some.inj hk).symm
  · rw [List.getElem?_set_ne e] at hk
    exact .inr (List.mem_of_getElem? hk)
theorem CliOk.set {c : List Nrm} (h : CliOk c) {i : Nat} {n m : Nrm} (hi : c[i]? = some n) (h1 : m.el = n.el) (h2 : m.fa = n.fa) (h3 : m.mo = n.mo) (e1 : -1030 ≤ m.me) (e2 : m.me ≤ 11030) (s1 : 0 ≤ m.sp) (s2 : m.sp ≤ 12100) : CliOk (c.set i m) := by
  refine ⟨by rw [List.length_set]; exact h.len, ascN_set h.asc hi h1 h2 h3, fun x hx => ?_⟩
  rcases mem_set hx with rfl | hx
  · have b := h.bd n (List.mem_of_getElem? hi)
    exact ⟨by rw [h1]; exact b.ex, by rw [h2]; exact b.f1, by rw [h2]; exact b.f2, by rw [h3]; exact b.m1, by rw [h3]; exact b.m2, e1, e2, s1, s2⟩
  · exact h.bd x hx
/-- From an index on the means are as they were learned. -/
def Fresh (c : List Nrm) (i : Nat) : Prop := ∀ (j : Nat) (n : Nrm), i ≤ j → c[j]? = some n → -1000 ≤ n.me ∧ n.me ≤ 11000 ∧ n.sp ≤ 12000
theorem fresh_set {c : List Nrm} {i : Nat} {m : Nrm} (h : Fresh c i) : Fresh (c.set i m) (i + 1) := by
  intro j n hj hn
  rw [List.getElem?_set_ne (by omega)] at hn
  exact h j n (by omega) hn
theorem fresh_s {c : List Nrm} {i : Nat} (h : Fresh c i) : Fresh c (i + 1) := fun j n hj hn => h j n (by omega) hn
end Go.Vi
