/- Vi, part 14: regions that draw their order. -/
import Derived.Test.YtbiifkfehfapkaaDoorVi13
set_option linter.unusedVariables false
set_option linter.unusedSimpArgs false
namespace Go.Vi

/-! ### which operations stand before which -/
section
variable {ops : Array Oper}

def bstep (acc : Array Nat) (o : Oper) : Array Nat := acc.push (o.after.foldl (fun s e => if Region.binds .any e then s ||| 2 ^ e.on ||| acc.getD e.on 0 else s) 0)

theorem before_eq (ops : Array Oper) : Region.before ops = ops.toList.foldl bstep #[] := by
  unfold Region.before
  rw [← Array.foldl_toList]
  rfl

theorem bits_foldl (acc : Array Nat) (i : Nat) : ∀ (l : List Edge) (s : Nat), (l.foldl (fun s e => if Region.binds .any e then s ||| 2 ^ e.on ||| acc.getD e.on 0 else s) s).testBit i = true →
    s.testBit i = true ∨ ∃ e ∈ l, Region.binds .any e = true ∧ (e.on = i ∨ (acc.getD e.on 0).testBit i = true)
  | [], s, h => .inl h
  | e :: l, s, h => by
    simp only [List.foldl_cons] at h
    rcases bits_foldl acc i l _ h with h1 | ⟨e', h1, h2, h3⟩
    · split at h1
      · rename_i hb
        simp only [Nat.testBit_or, Bool.or_eq_true, Nat.testBit_two_pow, decide_eq_true_eq] at h1
        rcases h1 with (h1 | h1) | h1
        · exact .inl h1
        · exact .inr ⟨e, by simp, hb, .inl h1⟩
        · exact .inr ⟨e, by simp, hb, .inr h1⟩
      · exact .inl h1
    · exact .inr ⟨e', by simp [h1], h2, h3⟩

/-- A set of operations that holds, with each, what its edges name. -/
theorem before_closed (D : Nat → Prop) : ∀ (l : List Oper) (pre : List Oper) (acc : Array Nat), acc.size = pre.length →
    (∀ (j : Nat) (o : Oper), (pre ++ l)[j]? = some o → D j → ∀ e ∈ o.after, Region.binds .any e = true → D e.on) →
    (∀ (j : Nat) (o : Oper), pre[j]? = some o → (∀ e ∈ o.after, Region.binds .any e = true → D e.on) → ∀ i, (acc.getD j 0).testBit i = true → D i) →
    ∀ (j : Nat) (o : Oper), (pre ++ l)[j]? = some o → (∀ e ∈ o.after, Region.binds .any e = true → D e.on) → ∀ i, ((l.foldl bstep acc).getD j 0).testBit i = true → D i
  | [], pre, acc, hs, hD, hacc => by
    intro j o hj he i hi
    simp only [List.append_nil] at hj
    exact hacc j o hj he i (by simpa using hi)
  | x :: l, pre, acc, hs, hD, hacc => by
    have e : pre ++ x :: l = (pre ++ [x]) ++ l := by simp
    rw [e] at hD ⊢
    simp only [List.foldl_cons]
    refine before_closed D l (pre ++ [x]) (bstep acc x) (by simp [bstep, hs]) hD ?_
    intro j o hj he i hi
    rw [List.getElem?_append] at hj
    split at hj
    · rename_i hlt
      refine hacc j o hj he i ?_
      have : (bstep acc x).getD j 0 = acc.getD j 0 := by
        have hlt' : j < acc.size := by omega
        have : (bstep acc x)[j]? = acc[j]? := by
          unfold bstep
          rw [Array.getElem?_push, if_neg (by omega)]
        rw [Array.getD_eq_getD_getElem?, Array.getD_eq_getD_getElem?, this]
      rwa [this] at hi
    · rename_i hge
      have hj0 : j - pre.length = 0 := by
        have := (List.getElem?_eq_some_iff.1 hj).1
        simp at this; omega
      have hje : j = acc.size := by omega
      rw [hj0] at hj
      simp at hj
      subst hj
      have hb : (bstep acc x).getD j 0 = x.after.foldl (fun s e => if Region.binds .any e then s ||| 2 ^ e.on ||| acc.getD e.on 0 else s) 0 := by
        have : (bstep acc x)[j]? = some (x.after.foldl (fun s e => if Region.binds .any e then s ||| 2 ^ e.on ||| acc.getD e.on 0 else s) 0) := by
          rw [hje]
          unfold bstep
          rw [Array.getElem?_push, if_pos rfl]
        rw [Array.getD_eq_getD_getElem?, this]
        rfl
      rw [hb, ← Array.foldl_toList] at hi
      rcases bits_foldl acc i _ _ hi with h1 | ⟨e', h1, h2, h3⟩
      · simp at h1
      · have hde := he e' (by simpa using h1) h2
        rcases h3 with h3 | h3
        · rw [← h3]; exact hde
        · by_cases hlt : e'.on < pre.length
          · have hpe : pre[e'.on]? = some pre[e'.on] := by simp [hlt]
            exact hacc e'.on _ hpe (hD e'.on _ (by rw [List.getElem?_append_left (by simp; omega), List.getElem?_append_left hlt]; exact hpe) hde) i h3
          · have : acc.getD e'.on 0 = 0 := by
              rw [Array.getD_eq_getD_getElem?, Array.getElem?_eq_none (by omega)]; rfl
            rw [this] at h3; simp at h3

theorem before_spec (D : Nat → Prop) (hD : ∀ (j : Nat) (o : Oper), ops[j]? = some o → D j → ∀ e ∈ o.after, Region.binds .any e = true → D e.on) (j : Nat) (o : Oper) (hj : ops[j]? = some o)
    (he : ∀ e ∈ o.after, Region.binds .any e = true → D e.on) (i : Nat) (hi : ((Region.before ops).getD j 0).testBit i = true) : D i := by
  rw [before_eq] at hi
  refine before_closed D ops.toList [] #[] rfl (fun j o h => hD j o (by simpa using h)) (fun j o h => by simp at h) j o (by simpa using hj) he i hi

theorem loose_mem {i j : Nat} (hij : i < j) (hj : j < ops.size) (hb : ((Region.before ops).getD j 0).testBit i = false) : (i, j) ∈ loosePairs ops := by
  unfold loosePairs
  simp only [List.mem_flatMap, List.mem_range, List.mem_filterMap]
  refine ⟨j, hj, i, hij, ?_⟩
  rw [hb]; rfl
end

section
variable {P : Program} {E : Env} {C : Oracle} {ops : Array Oper}

/-! ### a part of a region's doings -/
def appD (D : Nat → Bool) : Nat → List Eff → St → St
  | _, [], s => s
  | k, e :: es, s => appD D (k + 1) es (if D k then s.app e else s)

theorem appD_n (D : Nat → Bool) : ∀ (es : List Eff) (k : Nat) (s : St), (appD D k es s).n = s.n
  | [], _, _ => rfl
  | e :: es, k, s => by
    simp only [appD]
    rw [appD_n D es (k + 1)]
    split <;> rfl

theorem app_tm (s : St) (e : Eff) (t : Nat) : (s.app e).tm t = if e.dst = some t then e.v else s.tm t := by
  cases h : e.dst with
  | none => simp [St.app, setT, h]
  | some d =>
    simp only [St.app, setT, h, Option.some.injEq]
    by_cases ht : t = d
    · simp [ht]
    · rw [if_neg ht, if_neg (fun e => ht e.symm)]

theorem app_nx (s : St) (e : Eff) (t : Nat) : (s.app e).nx t = if e.dst = some t then s.nx t + e.nw else s.nx t := by
  cases h : e.dst with
  | none => simp [St.app, h]
  | some d =>
    simp only [St.app, h, Option.some.injEq]
    by_cases ht : t = d
    · simp [ht]
    · rw [if_neg ht, if_neg (fun e => ht e.symm)]

theorem applyUp_in {l : List (Id × Option Ob)} : ∀ {f f' : Id → Option Ob} {id : Id}, id ∈ l.map (·.1) → applyUp f l id = applyUp f' l id := by
  induction l with
  | nil => intro f f' id h; simp at h
  | cons x l ih =>
    intro f f' id h
    obtain ⟨i, o⟩ := x
    simp only [applyUp_cons]
    by_cases hin : id ∈ l.map (·.1)
    · exact ih hin
    · have hid : id = i := by simpa [hin] using h
      have hn : ∀ x ∈ l, x.1 ≠ id := fun x hx e => hin (List.mem_map.2 ⟨x, hx, e⟩)
      rw [applyUp_not hn, applyUp_not hn]
      simp [oset, hid]

theorem applyUp_out {l : List (Id × Option Ob)} {f : Id → Option Ob} {id : Id} (h : id ∉ l.map (·.1)) : applyUp f l id = f id :=
  applyUp_not fun x hx e => h (List.mem_map.2 ⟨x, hx, e⟩)

theorem appD_tm (D D' : Nat → Bool) (t : Nat) : ∀ (es : List Eff) (k : Nat) (s s' : St), s.tm t = s'.tm t → (∀ (j : Nat) (e : Eff), es[j]? = some e → e.dst = some t → D (k + j) = D' (k + j)) → (appD D k es s).tm t = (appD D' k es s').tm t
  | [], k, s, s', h, _ => h
  | e :: es, k, s, s', h, hw => by
    simp only [appD]
    refine appD_tm D D' t es (k + 1) _ _ ?_ fun j e' hj hd => by have := hw (j + 1) e' (by simpa using hj) hd; rwa [show k + (j + 1) = k + 1 + j by omega] at this
    by_cases hd : e.dst = some t
    · have := hw 0 e rfl hd
      simp only [Nat.add_zero] at this
      rw [this]
      split
      · rw [app_tm, app_tm, if_pos hd, if_pos hd]
      · exact h
    · have h1 : ∀ s : St, (s.app e).tm t = s.tm t := fun s => by rw [app_tm, if_neg hd]
      split <;> split <;> simp [h1, h]

theorem appD_nx (D D' : Nat → Bool) (t : Nat) : ∀ (es : List Eff) (k : Nat) (s s' : St), s.nx t = s'.nx t → (∀ (j : Nat) (e : Eff), es[j]? = some e → e.dst = some t → D (k + j) = D' (k + j)) → (appD D k es s).nx t = (appD D' k es s').nx t
  | [], k, s, s', h, _ => h
  | e :: es, k, s, s', h, hw => by
    simp only [appD]
    refine appD_nx D D' t es (k + 1) _ _ ?_ fun j e' hj hd => by have := hw (j + 1) e' (by simpa using hj) hd; rwa [show k + (j + 1) = k + 1 + j by omega] at this
    by_cases hd : e.dst = some t
    · have := hw 0 e rfl hd
      simp only [Nat.add_zero] at this
      rw [this]
      split
      · rw [app_nx, app_nx, if_pos hd, if_pos hd, h]
      · exact h
    · have h1 : ∀ s : St, (s.app e).nx t = s.nx t := fun s => by rw [app_nx, if_neg hd]
      split <;> split <;> simp [h1, h]

theorem appD_ob (D D' : Nat → Bool) (id : Id) : ∀ (es : List Eff) (k : Nat) (s s' : St), s.ob id = s'.ob id → (∀ (j : Nat) (e : Eff), es[j]? = some e → id ∈ e.up.map (·.1) → D (k + j) = D' (k + j)) → (appD D k es s).ob id = (appD D' k es s').ob id
  | [], k, s, s', h, _ => h
  | e :: es, k, s, s', h, hw => by
    simp only [appD]
    refine appD_ob D D' id es (k + 1) _ _ ?_ fun j e' hj hd => by have := hw (j + 1) e' (by simpa using hj) hd; rwa [show k + (j + 1) = k + 1 + j by omega] at this
    by_cases hd : id ∈ e.up.map (·.1)
    · have := hw 0 e rfl hd
      simp only [Nat.add_zero] at this
      rw [this]
      split
      · exact applyUp_in hd
      · exact h
    · have h1 : ∀ s : St, (s.app e).ob id = s.ob id := fun s => applyUp_out hd
      split <;> split <;> simp [h1, h]

theorem effs_spec : ∀ {l : List Oper} {s sn : St} {es : List Eff}, effs P E C ops l s = some (es, sn) → es.length = l.length ∧ sn = appD (fun _ => true) 0 es s ∧
    ∀ (i : Nat) (o : Oper), l[i]? = some o → ∃ e, es[i]? = some e ∧ effOf P E C ops o (appD (fun j => decide (j < i)) 0 es s) = some e
  | [], s, sn, es, h => by
    simp only [effs, Option.some.injEq, Prod.mk.injEq] at h
    obtain ⟨rfl, rfl⟩ := h
    exact ⟨rfl, rfl, fun i o hi => by simp at hi⟩
  | o :: l, s, sn, es, h => by
    simp only [effs] at h
    cases he : effOf P E C ops o s with
    | none => rw [he] at h; simp at h
    | some e =>
      rw [he] at h
      simp only at h
      cases hr : effs P E C ops l (s.app e) with
      | none => rw [hr] at h; simp at h
      | some q =>
        obtain ⟨es', sn'⟩ := q
        rw [hr] at h
        simp only [Option.some.injEq, Prod.mk.injEq] at h
        obtain ⟨rfl, rfl⟩ := h
        obtain ⟨q1, q2, q3⟩ := effs_spec hr
        have sh : ∀ (D : Nat → Bool) (es : List Eff) (k : Nat) (s : St), appD D (k + 1) es s = appD (fun j => D (j + 1)) k es s := by
          intro D es
          induction es with
          | nil => intro k s; rfl
          | cons e es ih => intro k s; simp only [appD]; exact ih (k + 1) _
        refine ⟨by simp [q1], ?_, fun i o' hi => ?_⟩
        · simp only [appD, if_true, sh]; exact q2
        · cases i with
          | zero =>
            simp at hi; subst hi
            refine ⟨e, rfl, ?_⟩
            have : ∀ (es : List Eff) (k : Nat) (s : St), appD (fun j => decide (j < 0)) k es s = s := by
              intro es
              induction es with
              | nil => intro k s; rfl
              | cons e es ih => intro k s; simp only [appD]; simp only [Nat.not_lt_zero, decide_false, Bool.false_eq_true, if_false]; exact ih _ _
            rw [this]; exact he
          | succ i =>
            obtain ⟨e', p1, p2⟩ := q3 i o' (by simpa using hi)
            refine ⟨e', by simpa using p1, ?_⟩
            simp only [appD, Nat.zero_lt_succ, decide_true, if_true, sh]
            have hf : (fun j => decide (j + 1 < i + 1)) = (fun j => decide (j < i)) := by funext j; simp
            rw [hf]; exact p2

theorem app_comm {s : St} {e f : Eff} (hd : ∀ d, e.dst = some d → f.dst ≠ some d) (hu : ∀ id, id ∈ e.up.map (·.1) → id ∉ f.up.map (·.1)) : (s.app e).app f = (s.app f).app e := by
  have h1 : ∀ t, ((s.app e).app f).tm t = ((s.app f).app e).tm t := by
    intro t
    rw [app_tm, app_tm, app_tm, app_tm]
    by_cases h : e.dst = some t
    · rw [if_pos h, if_neg (hd t h)]; simp [h]
    · simp [h]
  have h2 : ∀ t, ((s.app e).app f).nx t = ((s.app f).app e).nx t := by
    intro t
    rw [app_nx, app_nx, app_nx, app_nx]
    by_cases h : e.dst = some t
    · rw [if_pos h, if_neg (hd t h)]; simp [h, hd t h]
    · simp [h]
  have h3 : ∀ id, ((s.app e).app f).ob id = ((s.app f).app e).ob id := by
    intro id
    show applyUp (applyUp s.ob e.up) f.up id = applyUp (applyUp s.ob f.up) e.up id
    by_cases he : id ∈ e.up.map (·.1)
    · rw [applyUp_out (hu id he)]
      exact applyUp_in he
    · rw [applyUp_out (l := e.up) he]
      by_cases hf : id ∈ f.up.map (·.1)
      · exact applyUp_in hf
      · rw [applyUp_out hf, applyUp_out hf, applyUp_out he]
  have : ∀ a b : St, a.n = b.n → a.tm = b.tm → a.nx = b.nx → a.ob = b.ob → a = b := by
    rintro ⟨_, _, _, _⟩ ⟨_, _, _, _⟩ rfl rfl rfl rfl; rfl
  exact this _ _ rfl (funext h1) (funext h2) (funext h3)

/-- One more operation, behind those of D. -/
theorem appD_add {D : Nat → Bool} {i : Nat} {e : Eff} (hi : D i = false) : ∀ (es : List Eff) (k : Nat) (s : St), (∃ m, i = k + m ∧ es[m]? = some e) →
    (∀ (j : Nat) (f : Eff), es[j]? = some f → D (k + j) = true → i < k + j → (∀ d, e.dst = some d → f.dst ≠ some d) ∧ ∀ id, id ∈ e.up.map (·.1) → id ∉ f.up.map (·.1)) →
    appD (fun j => D j || decide (j = i)) k es s = (appD D k es s).app e := by
  have past : ∀ (es : List Eff) (k : Nat) (s : St), i < k → (∀ (j : Nat) (f : Eff), es[j]? = some f → D (k + j) = true → (∀ d, e.dst = some d → f.dst ≠ some d) ∧ ∀ id, id ∈ e.up.map (·.1) → id ∉ f.up.map (·.1)) →
      appD (fun j => D j || decide (j = i)) k es (s.app e) = (appD D k es s).app e := by
    intro es
    induction es with
    | nil => intro k s _ _; rfl
    | cons f es ih =>
      intro k s hk hc
      simp only [appD]
      have hki : decide (k = i) = false := by simp; omega
      simp only [hki, Bool.or_false]
      have hc' : ∀ (j : Nat) (g : Eff), es[j]? = some g → D (k + 1 + j) = true → (∀ d, e.dst = some d → g.dst ≠ some d) ∧ ∀ id, id ∈ e.up.map (·.1) → id ∉ g.up.map (·.1) :=
        fun j g hj hd => hc (j + 1) g (by simpa using hj) (by rwa [show k + (j + 1) = k + 1 + j by omega])
      by_cases hd : D k = true
      · rw [if_pos hd, if_pos hd]
        obtain ⟨c1, c2⟩ := hc 0 f rfl (by simpa using hd)
        rw [app_comm c1 c2]
        exact ih (k + 1) _ (by omega) hc'
      · rw [if_neg hd, if_neg hd]
        exact ih (k + 1) _ (by omega) hc'
  intro es
  induction es with
  | nil => rintro k s ⟨m, _, h⟩; simp at h
  | cons f es ih =>
    rintro k s ⟨m, hm, hf⟩ hc
    simp only [appD]
    cases m with
    | zero =>
      simp at hm hf
      subst hm; subst hf
      simp only [decide_true, Bool.or_true, if_true, hi, Bool.false_eq_true, if_false]
      exact past es (i + 1) s (by omega) fun j g hj hd => hc (j + 1) g (by simpa using hj) (by rwa [show i + (j + 1) = i + 1 + j by omega]) (by omega)
    | succ m =>
      have hki : decide (k = i) = false := by simp; omega
      simp only [hki, Bool.or_false]
      exact ih (k + 1) _ ⟨m, by omega, by simpa using hf⟩ fun j g hj hd hlt => hc (j + 1) g (by simpa using hj) (by rwa [show k + (j + 1) = k + 1 + j by omega]) (by omega)
end
end Go.Vi
