/- Vi, part 7: what lies in a slice; append. -/
import Derived.Test.YtbiifkfehfapkaaDoorVi6
set_option linter.unusedVariables false
set_option linter.unusedSimpArgs false
namespace Go.Vi
section
variable {P : Program} {H : Hp} {β : Bt} {ob : Id → Option Ob} {w : World} {t g : Nat}

theorem flatMap_len {f : V → List V} {es : Nat} : ∀ (l : List V), (∀ (j : Nat) (x : V), l[j]? = some x → (f x).length = es) → (l.flatMap f).length = l.length * es
  | [], _ => by simp
  | x :: l, h => by
    have h0 := h 0 x rfl
    have ih := flatMap_len l fun j x hx => h (j + 1) x (by simpa using hx)
    simp only [List.flatMap_cons, List.length_append, List.length_cons, h0, ih, Nat.add_mul]; omega

theorem flatMap_get {f : V → List V} {es : Nat} (he : 0 < es) : ∀ (l : List V) (k : Nat) (y : V), (∀ (j : Nat) (x : V), l[j]? = some x → (f x).length = es) → (l.flatMap f)[k]? = some y → ∃ x, l[k / es]? = some x ∧ (f x)[k % es]? = some y
  | [], k, y, _, h => by simp at h
  | x :: l, k, y, hl, h => by
    have h0 := hl 0 x rfl
    simp only [List.flatMap_cons, List.getElem?_append, h0] at h
    split at h
    · rename_i hk
      exact ⟨x, by rw [Nat.div_eq_of_lt hk]; rfl, by rw [Nat.mod_eq_of_lt hk]; exact h⟩
    · rename_i hk
      obtain ⟨z, h1, h2⟩ := flatMap_get he l (k - es) y (fun j x hx => hl (j + 1) x (by simpa using hx)) h
      refine ⟨z, ?_, by rw [Nat.mod_eq_sub_mod (by omega)]; exact h2⟩
      have : k / es = (k - es) / es + 1 := by rw [Nat.div_eq_sub_div he (by omega)]
      rw [this]; simpa using h1

def PW (P : Program) (H : Hp) (β : Bt) (xs : List V) (us : Array Value) : Prop := us.size = xs.length ∧ ∀ (k : Nat) (y : V) (u : Value), xs[k]? = some y → us[k]? = some u → RV P H β y u

theorem PW.CR {xs : List V} {us : Array Value} (h : PW P H β xs us) : CR P H β xs us 0 := ⟨by have := h.1; omega, fun k y u hy hu => h.2 k y u hy (by simpa using hu)⟩

theorem PW.one {xs : List V} {us : Array Value} (h : PW P H β xs us) (hl : xs.all V.leaf = true) : ∀ u ∈ us.toList, u.oneCell' = true := by
  intro u hu
  obtain ⟨k, hk, rfl⟩ := List.getElem_of_mem hu
  simp only [Array.length_toList] at hk
  have hkx : k < xs.length := by rw [← h.1]; exact hk
  simp only [List.all_eq_true] at hl
  exact one_of_leaf (h.2 k xs[k] us[k] (by simp [hkx]) (by simp [hk])) (hl _ (List.getElem_mem hkx))

/-- What a slice value and its cells are. -/
theorem slCells_sound (hr : Rel P H β ob w) {v : V} {u : Value} (hv : RV P H β v u) {xs : List V} {rd : List Id} {n sz : Nat} (h : (slCells P v).run ob = some (xs, rd)) (hn : slLen v = some n)
    (hsz : xs.length = n * sz) (hz : 0 < sz) :
    ∃ A cap us, u = .slice A n cap ∧ n ≤ cap ∧ PW P H β xs us ∧ ∀ w' : World, w'.heap = w.heap → (Builtin.firstCells sz n u).run P w' = .ok us w' := by
  cases v with
  | nl =>
    simp [slLen] at hn; subst hn
    have := Rd.run_pure h; simp only [Prod.mk.injEq] at this; obtain ⟨rfl, rfl⟩ := this
    cases hv
    exact ⟨none, 0, #[], rfl, by omega, ⟨rfl, fun k y u hy => by simp at hy⟩, fun w' _ => by simp [Builtin.firstCells]⟩
  | e0 =>
    simp [slLen] at hn; subst hn
    have := Rd.run_pure h; simp only [Prod.mk.injEq] at this; obtain ⟨rfl, rfl⟩ := this
    cases hv with
    | e0 _ A =>
      refine ⟨A, 0, #[], rfl, by omega, ⟨rfl, fun k y u hy => by simp at hy⟩, fun w' _ => ?_⟩
      cases A <;> simp [Builtin.firstCells, loadCells, loadCellsFrom]
  | fs l =>
    simp [slLen] at hn; subst hn
    simp only [slCells] at h
    split at h
    · rename_i hk
      have := Rd.run_pure h; simp only [Prod.mk.injEq] at this; obtain ⟨rfl, rfl⟩ := this
      cases hv with
      | fs0 _ A cap =>
        refine ⟨A, cap, #[], rfl, by simp, ⟨rfl, fun k y u hy => by simp at hy⟩, fun w' _ => ?_⟩
        cases A <;> simp [Builtin.firstCells, loadCells, loadCellsFrom]
      | fs _ _ b off es cap arr ty fr h1 h2 h3 h4 h5 =>
        rw [flatMap_len l h4] at hsz
        have hg := hr.hp _ _ h2
        by_cases hl0 : l.length = 0
        · obtain rfl : l = [] := List.eq_nil_of_length_eq_zero hl0
          exact ⟨_, cap, #[], rfl, by simp, ⟨rfl, fun k y u hy => by simp at hy⟩, fun w' _ => by simp [Builtin.firstCells, loadCells, loadCellsFrom]⟩
        · have he : es = sz := Nat.eq_of_mul_eq_mul_left (by omega) hsz
          subst he
          refine ⟨_, cap, arr.extract off (off + l.length * es), rfl, h1, ⟨by rw [flatMap_len l h4]; simp; omega, fun k y u hy hu => ?_⟩, fun w' hw => ?_⟩
          · obtain ⟨x, q1, q2⟩ := flatMap_get hz l k y h4 hy
            have hku : arr[off + k / es * es + k % es]? = some u := by
              have : off + k / es * es + k % es = off + k := by have := Nat.div_add_mod k es; rw [Nat.mul_comm] at this; omega
              rw [this]
              have hlt : k < l.length * es := by rw [← flatMap_len l h4]; exact (List.getElem?_eq_some_iff.1 hy).1
              rw [Array.getElem?_extract] at hu
              split at hu
              · exact hu
              · simp at hu
            exact (h5 _ _ q1 _ _ _ q2 hku).mono (Hp.le_refl _) (noB_le _)
          · have hg' : w'.heap[b]? = some (.cells arr ty fr) := by rw [hw]; exact hg
            simp [Builtin.firstCells, run_loadCells_at (P := P) hg' h3]
    · exact (Rd.run_fail h).elim
  | sl id off m e x =>
    simp [slLen] at hn; subst hn
    obtain ⟨o, l', ho, h2, rfl⟩ := Rd.run_look h
    cases hzz : szT P e with
    | none => simp [hzz, Rd.run] at h2
    | some sz' =>
      simp only [hzz] at h2
      split at h2
      · rename_i hle
        have := Rd.run_pure h2; simp only [Prod.mk.injEq] at this; obtain ⟨rfl, rfl⟩ := this
        cases hv with
        | sl _ _ _ _ _ _ b szb es cap hβ hes hcap hnc hxx =>
          rw [hzz] at hes; cases hes
          obtain ⟨b', sz'', arr, fr, q1, q2, q3, q4, q5, q6, q7⟩ := (hr.obj _ _ ho).out
          rw [hβ] at q1; cases q1
          have hcl : ((o.cells.drop off).take (m * sz')).length = m * sz' := by simp; omega
          by_cases hm : m = 0
          · subst hm
            refine ⟨_, cap, #[], rfl, hnc, ⟨by simp, fun k y u hy => by simp at hy⟩, fun w' hw => by simp [Builtin.firstCells, loadCells, loadCellsFrom]⟩
          · have he : sz' = sz := Nat.eq_of_mul_eq_mul_left (by omega) (hcl.symm.trans hsz)
            subst he
            have hx := (q5.sub off (m * sz') hle).extract
            rw [hcl] at hx
            simp only [Nat.zero_add] at hx
            have hasz : off + m * sz' ≤ arr.size := by have := q5.1; omega
            refine ⟨_, cap, arr.extract off (off + m * sz'), rfl, hnc, ⟨by rw [hcl]; simp; omega, fun k y u hy hu => hx.2 k y u hy (by simpa using hu)⟩, fun w' hw => ?_⟩
            have hg' : w'.heap[b]? = some (.cells arr o.ty fr) := by rw [hw]; exact q2
            simp [Builtin.firstCells, run_loadCells_at (P := P) hg' hasz]
      · exact (Rd.run_fail h2).elim
  | _ => simp [slCells, Rd.run] at h

theorem Rel.remove (hr : Rel P H β ob w) (id : Id) : Rel P H β (oset ob id none) w := by
  have key : ∀ i o, oset ob id none i = some o → ob i = some o := by
    intro i o h
    simp only [oset] at h
    split at h
    · simp at h
    · exact h
  exact ⟨fun i o h => hr.obj i o (key i o h), fun i i' o o' b sz sz' h h' => hr.inj i i' o o' b sz sz' (key _ _ h) (key _ _ h'), hr.hp⟩

theorem Rel.rename (hr : Rel P H β ob w) {id id' : Id} {o : Ob} (ho : ob id = some o) {b sz : Nat} (hb : β id = some (b, sz)) (hn : β id' = none) :
    Rel P H (bset β id' (b, sz)) (oset (oset ob id none) id' (some o)) w := by
  have hle := bset_le hn (b, sz)
  have key : ∀ i oo, oset (oset ob id none) id' (some o) i = some oo → (i = id' ∧ oo = o) ∨ (i ≠ id' ∧ i ≠ id ∧ ob i = some oo) := by
    intro i oo h
    simp only [oset] at h
    split at h
    · rename_i e; simp only [Option.some.injEq] at h; exact .inl ⟨e, h.symm⟩
    · rename_i e
      split at h
      · simp at h
      · rename_i e'; exact .inr ⟨e, e', h⟩
  refine ⟨fun i oo h => ?_, fun i i' o1 o2 b1 s1 s2 h h' hb1 hb2 => ?_, hr.hp⟩
  · rcases key _ _ h with ⟨rfl, rfl⟩ | ⟨e, e', h⟩
    · obtain ⟨b', sz', arr, fr, q1, q2, q3, q4, q5, q6, q7⟩ := (hr.obj _ _ ho).out
      rw [hb] at q1; cases q1
      exact ⟨b, sz, arr, fr, by simp [bset], q2, q3, q4, q5.mono (Hp.le_refl _) hle, q6, q7⟩
    · exact (hr.obj _ _ h).mono (Hp.le_refl _) hle (fun _ _ _ => rfl) (fun _ _ _ => rfl)
  · rcases key _ _ h with ⟨rfl, rfl⟩ | ⟨e, e', h3⟩ <;> rcases key _ _ h' with ⟨rfl, rfl⟩ | ⟨f, f', h4⟩
    · rfl
    · simp only [bset, if_true, Option.some.injEq, Prod.mk.injEq] at hb1
      simp only [bset, if_neg f] at hb2
      obtain ⟨rfl, rfl⟩ := hb1
      exact absurd (hr.inj _ _ _ _ _ _ _ h4 ho hb2 hb) f'
    · simp only [bset, if_true, Option.some.injEq, Prod.mk.injEq] at hb2
      simp only [bset, if_neg e] at hb1
      obtain ⟨rfl, rfl⟩ := hb2
      exact absurd (hr.inj _ _ _ _ _ _ _ h3 ho hb1 hb) e'
    · simp only [bset, if_neg e] at hb1
      simp only [bset, if_neg f] at hb2
      exact hr.inj _ _ _ _ _ _ _ h3 h4 hb1 hb2

theorem Out.drop {id : Id} {v : V} {l : List (Id × Option Ob)} {nw : Nat} {u : Value} {H' : Hp} {β' : Bt} {w' : World} (h : Out P H β (oset ob id none) w t g ⟨v, l, nw⟩ u H' β' w') : Out P H β ob w t g ⟨v, (id, none) :: l, nw⟩ u H' β' w' :=
  ⟨h.hH, h.hb, h.nw, h.rv, h.rel, h.keep, h.hfr⟩

theorem Out.before {w1 : World} {r : Res} {u : Value} {H' : Hp} {β' : Bt} {w' : World} (h : Out P H β ob w1 t g r u H' β' w') (hw : Keep w w1 (fun b => ∃ id sz, β id = some (b, sz))) (hs : w1.heap.size = w.heap.size) : Out P H β ob w t g r u H' β' w' :=
  ⟨h.hH, h.hb, by rw [← hs]; exact h.nw, h.rv, h.rel, hw.trans h.keep, by rw [← hs]; exact h.hfr⟩

theorem CR_app {xs ys : List V} {as bs cs : Array Value} (h1 : PW P H β xs as) (h2 : PW P H β ys bs) : CR P H β (xs ++ ys) (as ++ bs ++ cs) 0 := by
  refine ⟨by simp; have := h1.1; have := h2.1; omega, fun k y u hy hu => ?_⟩
  simp only [Nat.zero_add] at hu
  rw [Array.append_assoc] at hu
  rw [List.getElem?_append] at hy
  split at hy
  · rename_i hk
    rw [Array.getElem?_append_left (by rw [h1.1]; exact hk)] at hu
    exact h1.2 k y u hy hu
  · rename_i hk
    rw [Array.getElem?_append_right (by rw [h1.1]; omega), h1.1] at hu
    have hlt : k - xs.length < ys.length := (List.getElem?_eq_some_iff.1 hy).1
    rw [Array.getElem?_append_left (by rw [h2.1]; exact hlt)] at hu
    exact h2.2 _ y u hy hu

/-- The part of append that makes a new block. -/
theorem append_grow {ty ty2 rt e : TypeId} {d2 : TypeDesc} {sz by_ : Nat} {z : V} (hu : P.underlying ty = some (.slice e)) (hu2 : P.underlying ty2 = some d2) (hd2 : ∀ k, d2 ≠ .int k)
    (hsz : szT P e = some sz) (hby : byT P e = some by_) (hz : zeroT P e = some z) (hzk : z.ok = true) (hzl : z.flat.length = sz) (hb0 : 0 < by_)
    {A : Option Addr} {m cap n : Nat} (hcap : cap < m + n) (hroom : (m + n) * by_ ≤ room) {b : Value} {as us : Array Value} {xs0 xs : List V}
    (has : PW P H β xs0 as) (hus : PW P H β xs us) (hl0 : xs0.length = m * sz) (hl1 : xs.length = n * sz)
    (hold : ∀ w' : World, w'.heap = w.heap → (Builtin.firstCells sz m (.slice A m cap)).run P w' = .ok as w')
    (hnew : ∀ w' : World, w'.heap = w.heap → (Builtin.firstCells sz n b).run P w' = .ok us w') (hlen : ∀ w', (Builtin.lenOf b).run P w' = .ok n w')
    (hr : Rel P H β ob w) (hβ : β (.own t g) = none) :
    ∃ u H' β' w', (Builtin.append_ #[ty, ty2] rt #[.slice A m cap, b]).run P w = .ok u w' ∧ Out P H β ob w t g ⟨.sl (.own t g) 0 (m + n) e false, [(.own t g, some ⟨e, xs0 ++ xs, false⟩)], 1⟩ u H' β' w' := by
  obtain ⟨zu, hzr, hzrv⟩ := run_zero (β := β) (H := H) hz w
  obtain ⟨hz1, hz2, hz3⟩ := flat_rel hzrv hzk
  unfold szT at hsz; unfold byT at hby
  cases hi : P.info? e with
  | none => simp [hi] at hsz
  | some i =>
    simp [hi] at hsz hby
    have hznot : ((match d2 with | .int _ => true | _ => false) = true) = False := by
      cases d2 <;> simp
      exact hd2 _ rfl
    have h48 : ¬ (Builtin.nextslicecap (m + n) cap * by_ > 281474976710656) := by
      have := growslice_fits (bytes := by_) hcap (by simpa [room] using hroom)
      omega
    have hzr' : ∀ w', (zeroValue e).run P w' = .ok zu w' := by
      intro w'
      simp only [zeroValue, typeInfo, Sem.run_bind, run_program, Result.andThen_ok, hi] at hzr ⊢
      cases hzz : i.zero with
      | none => simp [hzz] at hzr
      | some z' => simp [hzz] at hzr ⊢; exact hzr
    let q : Question := .appendCap (m + n) cap e
    let nc := q.cut (w.tape w.drawn q)
    have hnc : m + n ≤ nc := by simp only [nc, q, Question.cut]; omega
    let w1 : World := { w with drawn := w.drawn + 1 }
    have hw1 : w1.heap = w.heap := rfl
    let arr := as ++ us ++ Builtin.zeroCells zu.cells (nc - (m + n))
    have hasz : arr.size = nc * sz := by
      have h1 := has.1; have h2 := hus.1
      have h3 : (Builtin.zeroCells zu.cells (nc - (m + n))).size = (nc - (m + n)) * sz := by simp [Builtin.zeroCells, hz1, hzl]
      simp only [arr, Array.size_append, h1, h2, h3, hl0, hl1]
      rw [← Nat.add_mul, ← Nat.add_mul]; congr 1; omega
    have hr1 : Rel P H β ob w1 := hr.drew
    have hnew' := Out.new (t := t) (g := g) hr1 hβ (arr := arr) (ty := e) (fr := (0, 0)) (cells := xs0 ++ xs) (CR_app has hus) (frok_zero _)
      (v := .sl (.own t g) 0 (m + n) e false) (u := .slice (some ⟨w1.heap.size, 0, none⟩) (m + n) nc)
      (fun β' hle hβ' => .sl _ _ _ _ _ _ _ _ sz nc hβ' (by simp [szT, hi, hsz]) (by rw [hasz]; omega) hnc (by simp))
    refine ⟨.slice (some ⟨w1.heap.size, 0, none⟩) (m + n) nc, _, _, _, ?_, hnew'.before (Keep.drew _ _) rfl⟩
    have hmatch : (match d2 with | .int a => true | x => false) = false := by
      cases d2 <;> simp
      exact hd2 _ rfl
    have hq : q.forced = false := rfl
    have hneed : ¬ (m + n ≤ cap) := by omega
    simp [Builtin.append_, run_underlying hu, run_underlying hu2, sizeOf, typeInfo, hi, hsz, hby, hlen, hneed, Nat.ne_of_gt hb0]
    cases d2 <;> first | (exact absurd rfl (hd2 _)) | skip
    all_goals
      simp [hlen, hneed, Nat.ne_of_gt hb0, h48, Question.forced]
      rw [hold w.drew rfl, Result.andThen_ok, hnew w.drew rfl, Result.andThen_ok, hzr' w.drew, Result.andThen_ok]
      simp only [arr, Array.append_assoc]
      rfl

theorem CR_inplace {xs0 xs : List V} {arr : Array Value} {us : Array Value} (h : CR P H β xs0 arr 0) (hu : PW P H β xs us) (hle : xs0.length + xs.length ≤ arr.size) :
    CR P H β (xs0 ++ xs) (arr.toList.take xs0.length ++ us.toList ++ arr.toList.drop (xs0.length + us.toList.length)).toArray 0 := by
  refine ⟨by simp; have := hu.1; omega, fun k y u hy hu' => ?_⟩
  simp only [Nat.zero_add] at hu'
  have hu2 : (arr.toList.take xs0.length ++ us.toList ++ arr.toList.drop (xs0.length + us.toList.length))[k]? = some u := by simpa using hu'
  clear hu'
  rw [List.append_assoc, List.getElem?_append] at hu2
  rw [List.getElem?_append] at hy
  simp only [List.length_take, Array.length_toList, show min xs0.length arr.size = xs0.length by omega] at hu2
  split at hy
  · rename_i hk
    rw [if_pos hk] at hu2
    simp only [List.getElem?_take, hk, if_true] at hu2
    exact h.2 k y u hy (by simpa using hu2)
  · rename_i hk
    rw [if_neg hk, List.getElem?_append] at hu2
    have hlt : k - xs0.length < xs.length := (List.getElem?_eq_some_iff.1 hy).1
    rw [if_pos (by simp [hu.1]; exact hlt)] at hu2
    exact hu.2 _ y u hy (by simpa using hu2)

/-- append where there is room. -/
theorem append_fit {ty ty2 rt e : TypeId} {d2 : TypeDesc} {sz : Nat} (hu : P.underlying ty = some (.slice e)) (hu2 : P.underlying ty2 = some d2) (hd2 : ∀ k, d2 ≠ .int k) (hsz : szT P e = some sz)
    {A : Option Addr} {m cap n : Nat} (hcap : m + n ≤ cap) {b : Value} {us : Array Value} (hnew : (Builtin.firstCells sz n b).run P w = .ok us w) (hlen : ∀ w', (Builtin.lenOf b).run P w' = .ok n w') {w' : World}
    (hst : ∀ a, A = some a → (storeCells (a.add (m * sz)) us.toList).run P w = .ok () w') (hn : A = none → w' = w) :
    (Builtin.append_ #[ty, ty2] rt #[.slice A m cap, b]).run P w = .ok (.slice A (m + n) cap) w' := by
  unfold szT at hsz
  cases hi : P.info? e with
  | none => simp [hi] at hsz
  | some i =>
    simp [hi] at hsz
    unfold Builtin.append_
    simp only [List.getElem?_toArray, List.getElem?_cons_zero, List.getElem?_cons_succ, Sem.run_bind, run_underlying hu, Result.andThen_ok, sizeOf, typeInfo, run_program, hi, Sem.run_pure, hsz]
    rw [run_underlying hu2, Result.andThen_ok]
    cases d2 <;> first | (exact absurd rfl (hd2 _)) | skip
    all_goals
      simp only [Result.andThen_ok, Bool.false_eq_true, if_false, hlen, if_pos hcap, hnew, Bool.not_false, if_true]
      cases A with
      | none => simp [hn rfl, hlen, hcap, hnew]
      | some a => simp [hst a rfl, hlen, hcap, hnew]

set_option maxHeartbeats 4000000 in
/-- append. -/
theorem vAppend_sound {ty ty2 rt : TypeId} {d2 : TypeDesc} (hu2 : P.underlying ty2 = some d2) (hd2 : ∀ k, d2 ≠ .int k) (hr : Rel P H β ob w) (hβ : β (.own t g) = none)
    {s x : V} {a b : Value} (hs : RV P H β s a) (hx : RV P H β x b) {r : Res} {rd : List Id} (h : (vAppend P ty s x (.own t g)).run ob = some (r, rd)) :
    ∃ u H' β' w', (Builtin.append_ #[ty, ty2] rt #[a, b]).run P w = .ok u w' ∧ Out P H β ob w t g r u H' β' w' := by
  unfold vAppend at h
  split at h
  · rename_i e hu
    split at h
    · rename_i sz by_ z hsz hby hz
      obtain ⟨xs, l1, l2, hxs, ha1, _⟩ := Rd.run_bind h
      clear h
      obtain ⟨n, l3, l4, hn, h, _⟩ := Rd.run_bind ha1
      clear ha1
      obtain ⟨hn, _⟩ := Rd.run_opt hn
      split at h
      · exact (Rd.run_fail h).elim
      · rename_i hcond
        simp only [Bool.not_eq_true', Bool.not_eq_false, Bool.and_eq_true, beq_iff_eq, decide_eq_true_eq] at hcond
        obtain ⟨⟨⟨⟨⟨hleaf, hxl⟩, hb0⟩, hz0⟩, hzk⟩, hzl⟩ := hcond
        -- the second operand
        have hX : ∃ us, PW P H β xs us ∧ (∀ w' : World, w'.heap = w.heap → (Builtin.firstCells sz n b).run P w' = .ok us w') ∧ (∀ w', (Builtin.lenOf b).run P w' = .ok n w') := by
          cases x with
          | str sb =>
            cases hx
            have := Rd.run_pure hxs; simp only [Prod.mk.injEq] at this; obtain ⟨rfl, rfl⟩ := this
            simp only [Option.some.injEq] at hn; subst hn
            refine ⟨sb.data.map fun b => .int .u8 b.toNat, ⟨by simp [bytesV], fun k y u hy hu => ?_⟩, fun w' _ => ?_, fun w' => by simp [Builtin.lenOf]⟩
            · simp only [bytesV, List.getElem?_map, Array.getElem?_toList] at hy
              simp only [Array.getElem?_map] at hu
              cases hd : sb.data[k]? with
              | none => simp [hd] at hy
              | some c => simp [hd] at hy hu; subst hy; subst hu; exact .int ..
            · have : sb.extract 0 sb.size = sb := by simp
              simp [Builtin.firstCells, this]
          | junk | int _ _ | bool _ | agg _ | tup _ | lp _ _ | fp _ _ | fn _ _ => simp [slCells, Rd.run] at hxs
          | nl | e0 | fs _ | sl _ _ _ _ _ =>
            obtain ⟨A, cap, us, rfl, q1, q2, q3⟩ := slCells_sound hr hx hxs hn hxl hz0
            exact ⟨us, q2, q3, fun w' => by simp [Builtin.lenOf]⟩
        obtain ⟨us, hus, hnew, hlen⟩ := hX
        have hone := hus.one hleaf
        have hszi := hsz
        have hbyi := hby
        unfold szT at hszi; unfold byT at hbyi
        -- what is kept as it is
        have hsame : ∀ (A : Option Addr) (m cap : Nat), n = 0 → m ≤ cap → (Builtin.append_ #[ty, ty2] rt #[.slice A m cap, b]).run P w = .ok (.slice A m cap) w := by
          intro A m cap hn0 hmc
          subst hn0
          have hus0 : us = #[] := Array.eq_empty_of_size_eq_zero (by rw [hus.1, hxl]; simp)
          exact append_fit hu hu2 hd2 hsz (by omega) (hnew w rfl) hlen (fun a _ => by simp [hus0, storeCells]) (fun _ => rfl)
        cases s with
        | junk | int _ _ | bool _ | str _ | agg _ | tup _ | lp _ _ | fs _ | fp _ _ | fn _ _ => exact (Rd.run_fail h).elim
        | nl =>
          cases hs
          simp only at h
          split at h
          · rename_i hn0
            have := Rd.run_pure h; simp only [Prod.mk.injEq] at this; obtain ⟨rfl, rfl⟩ := this
            exact ⟨_, H, β, w, hsame none 0 0 hn0 (by omega), Out.val hr (.nl ..)⟩
          · rename_i hn0
            split at h
            · rename_i hroom
              have := Rd.run_pure h; simp only [Prod.mk.injEq] at this; obtain ⟨rfl, rfl⟩ := this
              have := append_grow (rt := rt) hu hu2 hd2 hsz hby hz hzk hzl hb0 (A := none) (m := 0) (cap := 0) (n := n) (by omega) (by simpa using hroom) (as := #[]) (xs0 := []) ⟨rfl, fun k y u hy => by simp at hy⟩ hus (by simp) hxl
                (fun w' _ => by simp [Builtin.firstCells]) hnew hlen hr hβ
              simpa using this
            · exact (Rd.run_fail h).elim
        | e0 =>
          cases hs with
          | e0 _ A =>
          simp only at h
          split at h
          · rename_i hn0
            have := Rd.run_pure h; simp only [Prod.mk.injEq] at this; obtain ⟨rfl, rfl⟩ := this
            exact ⟨_, H, β, w, hsame A 0 0 hn0 (by omega), Out.val hr (.e0 ..)⟩
          · rename_i hn0
            split at h
            · rename_i hroom
              have := Rd.run_pure h; simp only [Prod.mk.injEq] at this; obtain ⟨rfl, rfl⟩ := this
              have := append_grow (rt := rt) hu hu2 hd2 hsz hby hz hzk hzl hb0 (A := A) (m := 0) (cap := 0) (n := n) (by omega) (by simpa using hroom) (as := #[]) (xs0 := []) ⟨rfl, fun k y u hy => by simp at hy⟩ hus (by simp) hxl
                (fun w' _ => by cases A <;> simp [Builtin.firstCells, loadCells, loadCellsFrom]) hnew hlen hr hβ
              simpa using this
            · exact (Rd.run_fail h).elim
        | sl id off m e' ex =>
          simp only at h
          obtain ⟨o, l', ho, h2, _⟩ := Rd.run_look h
          clear h
          split at h2
          · exact (Rd.run_fail h2).elim
          · rename_i hc2
            simp only [Bool.not_eq_true', Bool.not_eq_false, Bool.and_eq_true, beq_iff_eq, decide_eq_true_eq] at hc2
            obtain ⟨⟨rfl, hle⟩, hroom⟩ := hc2
            cases hs with
            | sl _ _ _ _ _ _ bk szb es cap hβ' hes hcap hnc hxx =>
            rw [hsz] at hes; cases hes
            obtain ⟨b', sz'', arr, fr, q1, q2, q3, q4, q5, q6, q7⟩ := (hr.obj _ _ ho).out
            rw [hβ'] at q1; cases q1
            have hcl : ((o.cells.drop off).take (m * sz)).length = m * sz := by simp; omega
            have hasz : off + m * sz ≤ arr.size := by have := q5.1; omega
            have hx0 := (q5.sub off (m * sz) hle).extract
            rw [hcl] at hx0
            simp only [Nat.zero_add] at hx0
            have hpw : PW P H β ((o.cells.drop off).take (m * sz)) (arr.extract off (off + m * sz)) := ⟨by rw [hcl]; simp; omega, fun k y u hy hu => hx0.2 k y u hy (by simpa using hu)⟩
            have hold : ∀ w' : World, w'.heap = w.heap → (Builtin.firstCells sz m (.slice (some ⟨bk, off, none⟩) m cap)).run P w' = .ok (arr.extract off (off + m * sz)) w' := by
              intro w' hw
              have hg' : w'.heap[bk]? = some (.cells arr o.ty fr) := by rw [hw]; exact q2
              simp [Builtin.firstCells, run_loadCells_at (P := P) hg' hasz]
            split at h2
            · rename_i hex
              have hcm := hxx hex
              subst hcm
              split at h2
              · rename_i hn0
                have := Rd.run_pure h2; simp only [Prod.mk.injEq] at this; obtain ⟨rfl, rfl⟩ := this
                exact ⟨_, H, β, w, hsame _ _ _ hn0 (by omega), Out.val hr (.sl _ _ _ _ _ _ bk szb sz _ hβ' hsz hcap hnc hxx)⟩
              · rename_i hn0
                have := Rd.run_pure h2; simp only [Prod.mk.injEq] at this; obtain ⟨rfl, rfl⟩ := this
                exact append_grow (rt := rt) hu hu2 hd2 hsz hby hz hzk hzl hb0 (A := some ⟨bk, off, none⟩) (by omega) hroom hpw hus hcl hxl hold hnew hlen hr hβ
            · rename_i hex
              split at h2
              · rename_i hc3
                simp only [Bool.and_eq_true, beq_iff_eq, Bool.not_eq_true'] at hc3
                obtain ⟨⟨⟨⟨rfl, htip⟩, hfz⟩, hown⟩, hoty⟩ := hc3
                have := Rd.run_pure h2; simp only [Prod.mk.injEq] at this; obtain ⟨rfl, rfl⟩ := this
                have htake : (o.cells.drop 0).take (m * sz) = o.cells := by simp [htip]
                by_cases hfit : m + n ≤ cap
                · -- in place
                  have hsb : o.cells.length + xs.length ≤ arr.size := by
                    have : m * sz + n * sz ≤ cap * sz := by rw [← Nat.add_mul]; exact Nat.mul_le_mul_right _ hfit
                    omega
                  have husl : us.toList.length = xs.length := by simpa using hus.1
                  have hcell := CR_inplace q5 hus hsb
                  have hs' : (arr.toList.take o.cells.length ++ us.toList ++ arr.toList.drop (o.cells.length + us.toList.length)).toArray.size = arr.size := by simp at husl ⊢; omega
                  obtain ⟨p1, p2⟩ := hr.set ho hfz hβ' q2 hs' hcell
                  have hren := p1.rename (id := id) (id' := .own t g) (o := ⟨o.ty, o.cells ++ xs, false⟩) (by simp [oset]) hβ' hβ
                  have hobe : oset (oset (oset ob id (some ⟨o.ty, o.cells ++ xs, false⟩)) id none) (.own t g) (some ⟨o.ty, o.cells ++ xs, false⟩) = applyUp ob [(id, none), (.own t g, some ⟨o.ty, o.cells ++ xs, false⟩)] := by
                    simp only [applyUp_cons, applyUp_nil]
                    funext y; simp only [oset]; split <;> (try rfl); split <;> rfl
                  rw [hobe] at hren
                  obtain ⟨t', g', rfl⟩ : ∃ t' g', id = .own t' g' := by cases id <;> simp [isOwn] at hown; exact ⟨_, _, rfl⟩
                  have hle' := bset_le hβ (bk, szb)
                  refine ⟨.slice (some ⟨bk, 0, none⟩) (m + n) cap, H, bset β (.own t g) (bk, szb), w.setRow bk _, ?_, Hp.le_refl _, hle', ?_, ?_, hren, p2, fun b x h h' => by simp [h] at h'⟩
                  · have hst := run_storeCells_fr (P := P) bk o.cells.length o.ty fr us.toList 0 arr w q2 (by rw [q3]; exact q4) (by simp at husl ⊢; omega) hone
                    refine append_fit hu hu2 hd2 hsz hfit (hnew w rfl) hlen (fun a ha => ?_) (fun h => by simp at h)
                    simp only [Option.some.injEq] at ha; subst ha
                    rw [add_none, Nat.zero_add, htip]; simpa using hst
                  · intro id x hx
                    unfold bset at hx
                    split at hx
                    · rename_i e1
                      simp only [Option.some.injEq] at hx
                      subst hx
                      have hlt := hr.lt ho hβ'
                      exact .inr ⟨0, by simp, by simpa using e1, by simpa using hlt, .inr ⟨t', g', szb, hβ'⟩⟩
                    · exact .inl hx
                  · refine .sl _ _ _ _ _ _ bk szb sz cap (by simp [bset]) hsz (by simpa using hcap) hfit (by simp)
                · -- a new block
                  rw [htake] at hpw
                  have := append_grow (rt := rt) (t := t) (g := g) (ob := oset ob id none) hu hu2 hd2 hsz hby hz hzk hzl hb0 (A := some ⟨bk, 0, none⟩) (m := m) (cap := cap) (n := n) (by omega) hroom hpw hus (by rw [← htip]) hxl hold hnew hlen (hr.remove id) hβ
                  obtain ⟨u, H', β', w', r1, r2⟩ := this
                  rw [← hoty] at r2
                  rw [hoty]
                  rw [hoty] at r2
                  exact ⟨u, H', β', w', r1, r2.drop⟩
              · exact (Rd.run_fail h2).elim
    · exact (Rd.run_fail h).elim
  · exact (Rd.run_fail h).elim
end
end Go.Vi
