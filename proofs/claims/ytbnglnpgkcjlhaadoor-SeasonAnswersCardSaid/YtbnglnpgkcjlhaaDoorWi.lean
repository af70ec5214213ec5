/- The season's laws, in plain Lean. -/
import Derived.Test.YtbnglnpgkcjlhaaDoorWh
set_option linter.unusedSimpArgs false
namespace Go.Vi
theorem seaL_0 {c : List Nrm} {r : Rep} (h : seaE c r = 0) : seaL c r = seaK c r r.rd := by unfold seaL; rw [if_pos h]
theorem sea_mem {c : List Nrm} {r : Rep} {k : Int} (h : k ∈ seaL c r) : seaE c r = 0 ∧ ∃ x ∈ r.rd, x.x = k ∧ seaR c r x = true := by
  unfold seaL at h
  split at h
  · rename_i e
    refine ⟨e, ?_⟩
    unfold seaK at h
    obtain ⟨x, hx, rfl⟩ := List.mem_map.1 h
    obtain ⟨h1, h2⟩ := List.mem_filter.1 hx
    exact ⟨x, h1, rfl, h2⟩
  · simp at h
theorem asc_pw {l : List I2} (h : ascF l = true) : l.Pairwise fun a b => a.x < b.x := by
  have : ascG (fun a b : I2 => decide (a.x < b.x)) l = true := by
    rw [ascG_iff]
    intro j a b h1 h2
    exact decide_eq_true ((asc_iff l).1 h j a b h1 h2)
  exact (ascG_pw (lt := fun a b : I2 => decide (a.x < b.x)) (fun a b c h1 h2 => by simp only [decide_eq_true_eq] at *; omega) this).imp fun {a b} hab => of_decide_eq_true hab
theorem sea_pw {c : List Nrm} {r : Rep} : (seaL c r).Pairwise fun a b => a < b := by
  unfold seaL
  split
  · rename_i e
    unfold seaK
    rw [List.pairwise_map]
    exact (asc_pw (val_0.1 (seaE_0.1 e).2.1).2).filter _
  · exact List.Pairwise.nil
theorem sea_lt {c : List Nrm} {r : Rep} {i j : Nat} {a b : Int} (hij : i < j) (h1 : (seaL c r)[i]? = some a) (h2 : (seaL c r)[j]? = some b) : a < b := by
  obtain ⟨l1, rfl⟩ := List.getElem?_eq_some_iff.1 h1
  obtain ⟨l2, rfl⟩ := List.getElem?_eq_some_iff.1 h2
  exact List.pairwise_iff_getElem.1 sea_pw i j l1 l2 hij
theorem sea_len {c : List Nrm} {r : Rep} : (seaL c r).length ≤ r.rd.length := by
  unfold seaL
  split
  · exact seaK_len c r r.rd
  · simp
theorem cv_filter {c : List Nrm} {p : Nrm → Bool} (h : cvF c = 0) : cvF (c.filter p) = 0 := by
  obtain ⟨h1, h2, h3, h4⟩ := cvF_0.1 h
  refine cvF_0.2 ⟨?_, fun n hn => h2 n (List.mem_filter.1 hn).1, fun n hn => h3 n (List.mem_filter.1 hn).1, ascG_of_pw ((ascG_pw ltN_tr h4).filter _)⟩
  have := List.length_filter_le p c
  omega
theorem dat_ok {t : Int} (h1 : 0 ≤ t) (h2 : t ≤ 52595999) : datE t = 0 := by unfold datE; rw [if_pos ⟨h1, h2⟩]
theorem sea_ok {c : List Nrm} {r : Rep} (h : cvF c = 0) (h1 : valF r.rd = 0) (h2 : okP r.pl = true) (t0 : 0 ≤ r.time) (t1 : r.time ≤ 52595999) : seaE c r = 0 := seaE_0.2 ⟨h, h1, h2, dat_ok t0 t1⟩
theorem sea_none {c : List Nrm} {r : Rep} (hp : isNF r.pl = true) (h : ∀ n ∈ c, n.fa ≠ r.pl.f) : seaL c r = [] := by
  rw [List.eq_nil_iff_forall_not_mem]
  intro k hk
  obtain ⟨_, x, hx, _, hr⟩ := sea_mem hk
  unfold seaR at hr
  simp only [Bool.and_eq_true, beq_iff_eq] at hr
  obtain ⟨_, h1, h2⟩ := look_0 hr.1
  rw [(isNF_ok hp).2] at h2
  unfold isN at h2
  simp only [Bool.and_eq_true, beq_iff_eq] at h2
  exact h _ h1 h2.2.1
/-! ### greater spreads -/
def WidN (n m : Nrm) : Prop := m.el = n.el ∧ m.fa = n.fa ∧ m.mo = n.mo ∧ m.me = n.me ∧ n.sp ≤ m.sp
def Wide : List Nrm → List Nrm → Prop
  | [], [] => True
  | n :: c, m :: d => WidN n m ∧ Wide c d
  | _, _ => False
theorem wide_rfl : ∀ c : List Nrm, Wide c c
  | [] => trivial
  | _ :: c => ⟨⟨rfl, rfl, rfl, rfl, Int.le_refl _⟩, wide_rfl c⟩
theorem wide_len : ∀ {c d : List Nrm}, Wide c d → c.length = d.length
  | [], [], _ => rfl
  | _ :: _, _ :: _, h => by simp only [List.length_cons]; rw [wide_len h.2]
  | [], _ :: _, h => h.elim
  | _ :: _, [], h => h.elim
theorem wide_set : ∀ {c d : List Nrm} {i : Nat} {m m' : Nrm}, Wide c d → d[i]? = some m → WidN m m' → Wide c (d.set i m')
  | [], [], _, _, _, _, hi, _ => by simp at hi
  | n :: c, m :: d, 0, m0, m', h, hi, hw => by
    simp at hi
    subst hi
    obtain ⟨⟨a1, a2, a3, a4, a5⟩, h⟩ := h
    obtain ⟨b1, b2, b3, b4, b5⟩ := hw
    exact ⟨⟨b1.trans a1, b2.trans a2, b3.trans a3, b4.trans a4, Int.le_trans a5 b5⟩, h⟩
  | n :: c, m :: d, i + 1, m0, m', h, hi, hw => by
    simp at hi
    exact ⟨h.1, wide_set h.2 hi hw⟩
  | [], _ :: _, _, _, _, h, _, _ => h.elim
  | _ :: _, [], _, _, _, h, _, _ => h.elim
theorem wide_find {k f mo : Int} : ∀ {c d : List Nrm}, Wide c d → ∀ m, d.find? (isN k f mo) = some m → ∃ n, c.find? (isN k f mo) = some n ∧ WidN n m
  | [], [], _, m, hm => by simp at hm
  | n :: c, m :: d, h, m0, hm => by
    have e : isN k f mo m = isN k f mo n := by
      unfold isN
      rw [h.1.1, h.1.2.1, h.1.2.2.1]
    rw [List.find?_cons] at hm ⊢
    rw [e] at hm
    cases hn : isN k f mo n with
    | true =>
      rw [hn] at hm
      dsimp only at hm ⊢
      obtain rfl := Option.some.inj hm
      exact ⟨n, rfl, h.1⟩
    | false =>
      rw [hn] at hm
      dsimp only at hm ⊢
      exact wide_find h.2 m0 hm
  | [], _ :: _, h, _, _ => h.elim
  | _ :: _, [], h, _, _ => h.elim
theorem wide_look {c d : List Nrm} (hw : Wide c d) (hc : cvF c = 0) {k : Int} {p : Pl} {t : Int} (h : (lookF d k p t).2 = 0) : (lookF c k p t).2 = 0 ∧ WidN (lookF c k p t).1 (lookF d k p t).1 := by
  obtain ⟨hd, _⟩ := look_0 h
  unfold lookF at h ⊢
  rw [if_neg (by rw [hd]; simp)] at h
  rw [if_neg (show ¬ cvF c ≠ 0 by rw [hc]; simp), if_neg (show ¬ cvF d ≠ 0 by rw [hd]; simp)]
  split at h
  · cases h
  · rename_i h2
    rw [if_neg h2, if_neg h2]
    split at h
    · rename_i m hm
      obtain ⟨n, hn, hw⟩ := wide_find hw m hm
      rw [hn]
      exact ⟨rfl, hw⟩
    · cases h
theorem wide_sea {c d : List Nrm} {r : Rep} (hw : Wide c d) (hc : seaE c r = 0) {k : Int} (h : k ∈ seaL d r) : k ∈ seaL c r := by
  obtain ⟨_, x, hx, hk, hr⟩ := sea_mem h
  rw [seaL_0 hc]
  unfold seaK
  refine List.mem_map.2 ⟨x, List.mem_filter.2 ⟨hx, ?_⟩, hk⟩
  unfold seaR at hr ⊢
  simp only [Bool.and_eq_true, Bool.or_eq_true, beq_iff_eq, decide_eq_true_eq] at hr ⊢
  obtain ⟨h1, w1, w2, w3, w4, w5⟩ := wide_look hw (seaE_0.1 hc).1 hr.1
  refine ⟨h1, ?_⟩
  omega
def Spr0 (c : List Nrm) (i : Nat) : Prop := ∀ (j : Nat) (n : Nrm), i ≤ j → c[j]? = some n → n.sp ≤ 12000
theorem spr0_set {c : List Nrm} {i : Nat} {m : Nrm} (h : Spr0 c i) : Spr0 (c.set i m) (i + 1) := by
  intro j n hj hn
  rw [List.getElem?_set_ne (by omega)] at hn
  exact h j n (by omega) hn
theorem ok_face {f : Int} (h1 : 0 ≤ f) (h2 : f < 20) : okP ⟨f, 280, 280, 280⟩ = true := by
  unfold okP
  simp
  omega
/-! ### what is learned -/
theorem nrm_uniq {c : List Nrm} (h : ascN c = true) {k f mo : Int} {n : Nrm} (hn : n ∈ c) (hi : isN k f mo n = true) : c.find? (isN k f mo) = some n := by
  obtain ⟨i, hi'⟩ := List.mem_iff_getElem?.1 hn
  obtain ⟨hlt, he⟩ := List.getElem?_eq_some_iff.1 hi'
  rw [List.find?_eq_some_iff_getElem]
  refine ⟨hi, i, hlt, he, fun j hj => ?_⟩
  have := ascG_lt ltN_tr h hj (List.getElem?_eq_getElem (by omega)) hi'
  simp only [decide_eq_true_eq] at this
  cases hb : isN k f mo c[j] with
  | false => rfl
  | true =>
    rw [isN_iff] at hi hb
    unfold eqN at hi hb
    unfold ltN at this
    omega
theorem lrn_look {l : List Rep} {c : List Nrm} (h : LrnOk l c) (hl : ∀ r ∈ l, PlOk r) {r : Rep} (hr : r ∈ l) {x : I2} (hx : x ∈ r.rd) :
    (lookF c x.x r.pl r.time).2 = 0 ∧ x.y - (lookF c x.x r.pl r.time).1.me ≤ (lookF c x.x r.pl r.time).1.sp ∧ (lookF c x.x r.pl r.time).1.me - x.y ≤ (lookF c x.x r.pl r.time).1.sp := by
  obtain ⟨n, hn, hi, h1, h2⟩ := h.hit r hr x hx
  have hf := nrm_uniq (cvF_0.1 h.cv).2.2.2 hn hi
  have hp := hl r hr
  unfold lookF
  rw [if_neg (by have := h.cv; omega), if_neg (by rw [(isNF_ok hp.pl).2, dat_ok hp.t1 hp.t2]; simp), (isNF_ok hp.pl).2, hf]
  exact ⟨rfl, h1, h2⟩
theorem pl_sea {l : List Rep} {c : List Nrm} (hc : cvF c = 0) (hl : ∀ r ∈ l, PlOk r) {r : Rep} (hr : r ∈ l) : seaE c r = 0 :=
  have hp := hl r hr
  sea_ok hc hp.rd (isNF_ok hp.pl).1 hp.t1 hp.t2
theorem lrn_sea {l : List Rep} {c : List Nrm} (h : LrnOk l c) (hl : ∀ r ∈ l, PlOk r) {r : Rep} (hr : r ∈ l) : seaL c r = [] := by
  rw [List.eq_nil_iff_forall_not_mem]
  intro k hk
  obtain ⟨_, x, hx, _, hs⟩ := sea_mem hk
  obtain ⟨h1, h2, h3⟩ := lrn_look h hl hr hx
  unfold seaR at hs
  simp only [Bool.and_eq_true, Bool.or_eq_true, beq_iff_eq, decide_eq_true_eq] at hs
  omega
/-- Another climate with the same normals, but for the spreads. -/
def SamN (n m : Nrm) : Prop := m.el = n.el ∧ m.fa = n.fa ∧ m.mo = n.mo ∧ m.me = n.me ∧ m.sp = 0
def Zeroed (c d : List Nrm) (i : Nat) : Prop := d = (c.take i).map (fun n => { n with sp := 0 }) ++ c.drop i
theorem zer_0 (c : List Nrm) : Zeroed c c 0 := by unfold Zeroed; simp
theorem zer_len {c d : List Nrm} {i : Nat} (h : Zeroed c d i) (hi : i ≤ c.length) : d.length = c.length := by
  unfold Zeroed at h
  subst h
  simp
  omega
theorem zer_step {c d : List Nrm} {i : Nat} (h : Zeroed c d i) {n : Nrm} (hn : d[i]? = some n) (hi : i < c.length) : Zeroed c (d.set i { n with sp := 0 }) (i + 1) := by
  unfold Zeroed at *
  subst h
  have hl : ((c.take i).map (fun n : Nrm => ({ n with sp := 0 } : Nrm))).length = i := by simp; omega
  rw [List.getElem?_append_right (by omega), hl, Nat.sub_self, List.getElem?_drop, Nat.add_zero] at hn
  rw [List.set_append_right _ _ (by omega), hl, Nat.sub_self, List.take_add_one, hn]
  obtain ⟨hlt, he⟩ := List.getElem?_eq_some_iff.1 hn
  rw [List.drop_eq_getElem_cons hlt, he]
  simp
theorem zer_all {c d : List Nrm} (h : Zeroed c d c.length) : d = c.map fun n => { n with sp := 0 } := by
  unfold Zeroed at h
  simpa using h
theorem zer_cv {c : List Nrm} (h : cvF c = 0) : cvF (c.map fun n => { n with sp := 0 }) = 0 := by
  obtain ⟨h1, h2, h3, h4⟩ := cvF_0.1 h
  refine cvF_0.2 ⟨by simpa using h1, fun n hn => ?_, fun n hn => ?_, ?_⟩
  · obtain ⟨m, hm, rfl⟩ := List.mem_map.1 hn
    exact h2 m hm
  · obtain ⟨m, hm, rfl⟩ := List.mem_map.1 hn
    have := valN_iff.1 (h3 m hm)
    exact valN_iff.2 ⟨this.f1, this.f2, this.m1, this.m2, this.e1, this.e2, by dsimp only; omega, by dsimp only; omega⟩
  · apply ascG_of_pw
    rw [List.pairwise_map]
    exact (ascG_pw ltN_tr h4).imp fun {a b} hab => hab
theorem find_map {k f mo : Int} : ∀ (c : List Nrm), (c.map fun n : Nrm => ({ n with sp := 0 } : Nrm)).find? (isN k f mo) = (c.find? (isN k f mo)).map fun n => { n with sp := 0 }
  | [] => rfl
  | n :: c => by
    rw [List.map_cons, List.find?_cons, List.find?_cons, find_map c]
    have : isN k f mo { n with sp := 0 } = isN k f mo n := rfl
    rw [this]
    cases isN k f mo n <;> rfl
theorem zer_look {c : List Nrm} (hc : cvF c = 0) {k : Int} {p : Pl} {t : Int} (h : (lookF c k p t).2 = 0) : lookF (c.map fun n => { n with sp := 0 }) k p t = ({ (lookF c k p t).1 with sp := 0 }, 0) := by
  unfold lookF at h ⊢
  rw [if_neg (by rw [hc]; simp)] at h
  rw [if_neg (by rw [zer_cv hc]; simp), if_neg (show ¬ cvF c ≠ 0 by rw [hc]; simp)]
  split at h
  · cases h
  · rename_i h2
    rw [if_neg h2, if_neg h2, find_map]
    split at h
    · rename_i m hm
      rw [hm]
      rfl
    · cases h
/-- Without spread exactly the readings that differ from the mean are rejected. -/
theorem lrn_far {l : List Rep} {c : List Nrm} (h : LrnOk l c) (hl : ∀ r ∈ l, PlOk r) {r : Rep} (hr : r ∈ l) {x : I2} (hx : x ∈ r.rd) :
    (farF (c.map fun n => { n with sp := 0 }) r x.x).2 = true ∧ ((farF (c.map fun n => { n with sp := 0 }) r x.x).1 != 0) = (seaL (c.map fun n => { n with sp := 0 }) r).contains x.x := by
  obtain ⟨h1, _, _⟩ := lrn_look h hl hr hx
  have hz := zer_look h.cv h1
  have he := pl_sea (c := c.map fun n => { n with sp := 0 }) (zer_cv h.cv) hl hr
  have hv := (hl r hr).rd
  have hf := find_of hv hx
  have e : farF (c.map fun n => { n with sp := 0 }) r x.x = (x.y - (lookF c x.x r.pl r.time).1.me, true) := by
    unfold farF
    rw [if_pos ⟨he, by rw [hf], by rw [hz]⟩, hf, hz]
  rw [e]
  refine ⟨rfl, ?_⟩
  rw [Bool.eq_iff_iff, List.contains_iff_mem]
  simp only [bne_iff_ne, ne_eq]
  constructor
  · intro hne
    rw [seaL_0 he]
    unfold seaK
    refine List.mem_map.2 ⟨x, List.mem_filter.2 ⟨hx, ?_⟩, rfl⟩
    unfold seaR
    rw [hz]
    simp only [Bool.and_eq_true, Bool.or_eq_true, beq_iff_eq, decide_eq_true_eq]
    exact ⟨trivial, by omega⟩
  · intro hm
    obtain ⟨_, y, hy, e1, hs⟩ := sea_mem hm
    have e2 := find_of hv hy
    rw [e1, hf] at e2
    have e2 : x.y = y.y := (Prod.mk.inj e2).1
    unfold seaR at hs
    rw [e1, hz] at hs
    simp only [Bool.and_eq_true, Bool.or_eq_true, beq_iff_eq, decide_eq_true_eq] at hs
    omega
end Go.Vi
