/- Vi, part 34: an operation of a region, as a proposition, is the interpreter's. -/
import Derived.Test.YtbejkehbfdcaaaaDoorWf
import Derived.Test.YtbejkehbfdcaaaaDoorWd
set_option linter.unusedVariables false
set_option linter.unusedSimpArgs false
namespace Go.Vi
section
variable {P : Program} {E : Env} {S : Sy} {ob : Id → Option Ob}

theorem noC_ok : OkC P E noC := fun f args bo r bo' ro h => by simp [noC] at h

theorem ldS_sound {e : TypeId} {w : View} (hw : View.Ok P e w) {fo : Nat} {ty : TypeId} {a : V} {k : V → List Id → Prop} (h : ldS P w fo ty a ob k) :
    ∃ v l, (match a with | .lp id off => Rd.look id fun ob => val (ld P ty ob.cells off) | .fp c off => val (ld P ty c off) | _ => (.fail : Rd Res)).run ob = some (⟨v, [], 0⟩, l) ∧ k v l := by
  unfold ldS at h
  cases a with
  | lp id off =>
    simp only at h ⊢
    split at h
    · rename_i o ho
      obtain ⟨l, i, hc, rfl, hi, h⟩ := h
      obtain ⟨v, hv, hk⟩ := optK_some (h _ (List.getElem?_eq_getElem hi))
      refine ⟨v, [id], ?_, hk⟩
      refine Rd.look_run ho ?_
      rw [hc]
      exact val_run (hw.ld_part (List.getElem?_eq_getElem hi) hv)
    · exact h.elim
  | fp c off =>
    simp only at h ⊢
    obtain ⟨l, i, hc, rfl, hi, h⟩ := h
    obtain ⟨v, hv, hk⟩ := optK_some (h _ (List.getElem?_eq_getElem hi))
    refine ⟨v, [], ?_, hk⟩
    rw [hc]
    exact val_run (hw.ld_part (List.getElem?_eq_getElem hi) hv)
  | _ => exact h.elim

theorem stS_sound {e : TypeId} {w : View} (hw : View.Ok P e w) {fo : Nat} {ty : TypeId} {a x : V} {k : Res → List Id → Prop} (h : stS P w fo ty a x ob k) :
    ∃ r l, (match a, szT P ty with
      | .lp id off, some sz => Rd.look id fun ob => if x.ok && x.flat.length == sz && decide (off + sz ≤ ob.cells.length) && !ob.fz then Rd.pure (⟨.tup [], [(id, some ⟨ob.ty, putCells ob.cells off x.flat, false⟩)], 0⟩ : Res) else .fail
      | _, _ => (.fail : Rd Res)).run ob = some (r, l) ∧ k r l := by
  unfold stS at h
  split at h
  · rename_i id off sz hs
    rw [hs]
    simp only
    split at h
    · rename_i o ho
      split at h
      · rename_i hc
        simp only [Bool.and_eq_true, decide_eq_true_eq, beq_iff_eq, Bool.not_eq_true'] at hc
        obtain ⟨⟨⟨c1, c2⟩, c3⟩, c4⟩ := hc
        obtain ⟨l, i, hcell, rfl, hi, h⟩ := h
        obtain ⟨x', hx', hk⟩ := h _ (List.getElem?_eq_getElem hi)
        refine ⟨_, [id], ?_, hk⟩
        refine Rd.look_run ho ?_
        have hle : i * w.sz + fo + sz ≤ o.cells.length := by
          rw [hcell, hw.fl_len]
          have := Nat.mul_le_mul_right w.sz hi
          rw [Nat.succ_mul] at this
          omega
        rw [if_pos (by simp [c1, c2, c4, hle]), hcell, putCells_fl hw (List.getElem?_eq_getElem hi) hx' (by rw [c2]; exact c3)]
        rfl
      · exact h.elim
    · exact h.elim
  · exact h.elim

theorem mergeL_eq {off : Nat} {v : V} : ∀ {l : List V} {j : Nat} {r : List V}, mergeL off v j l = some r → j ≤ off → off < j + l.length → r = putCells l (off - j) [v]
  | [], j, r, h, h1, h2 => by simp at h2; omega
  | c :: l, j, r, h, h1, h2 => by
    have tail : ∀ {f : Bool → V} {rest : List V}, mergeL off v (j + 1) l = some rest → (off = j → f true = v) → (off ≠ j → f false = c) → (f (decide (off = j)) :: rest = putCells (c :: l) (off - j) [v]) := by
      intro f rest hr f1 f2
      by_cases he : off = j
      · subst he
        rw [decide_eq_true rfl, f1 rfl, Nat.sub_self]
        have past : ∀ {l : List V} {j : Nat} {r : List V}, off < j → mergeL off v j l = some r → r = l := by
          intro l
          induction l with
          | nil => intro j r _ h; simp [mergeL] at h; exact h
          | cons c l ih =>
            intro j r hj h
            simp only [mergeL] at h
            split at h
            · split at h
              · split at h
                · rename_i hk _ r' hr'
                  simp only [Option.some.injEq] at h
                  rw [← h, ih (by omega) hr', if_neg (by omega), hk]
                · cases h
              · cases h
            · split at h
              · rename_i r' hr'
                simp only [Option.some.injEq] at h
                rw [← h, ih (by omega) hr', if_neg (by omega)]
              · cases h
            · cases h
        rw [past (by omega) hr]
        simp [putCells]
      · rw [decide_eq_false he, f2 he]
        have := mergeL_eq hr (by omega) (by simp at h2; omega)
        rw [this]
        have hs : off - j = (off - (j + 1)) + 1 := by omega
        rw [hs]
        simp [putCells, Nat.add_right_comm]
    simp only [mergeL] at h
    split at h
    · rename_i k x k' y
      split at h
      · rename_i hk
        subst hk
        split at h
        · rename_i rest hr
          simp only [Option.some.injEq] at h
          rw [← h]
          have := tail (f := fun b => .int k (if b = true then x else y)) hr (fun _ => by simp) (fun _ => by simp)
          rw [← this]
          by_cases he : off = j <;> simp [he]
        · cases h
      · cases h
    · rename_i x y
      split at h
      · rename_i rest hr
        simp only [Option.some.injEq] at h
        rw [← h]
        have := tail (f := fun b => .bool (if b = true then x else y)) hr (fun _ => by simp) (fun _ => by simp)
        rw [← this]
        by_cases he : off = j <;> simp [he]
      · cases h
    · cases h

theorem mergeL_leaf {off : Nat} {v : V} {l r : List V} {j : Nat} (h : mergeL off v j l = some r) (hl : l ≠ []) : v.leaf = true ∧ v.flat = [v] := by
  cases l with
  | nil => exact absurd rfl hl
  | cons c l =>
    simp only [mergeL] at h
    split at h
    · exact ⟨rfl, rfl⟩
    · exact ⟨rfl, rfl⟩
    · cases h

theorem stM_sound {ty : TypeId} {a x : V} {k : Res → List Id → Prop} (h : stM P ty a x ob k) :
    ∃ r l, (match a, szT P ty with
      | .lp id off, some sz => Rd.look id fun ob => if x.ok && x.flat.length == sz && decide (off + sz ≤ ob.cells.length) && !ob.fz then Rd.pure (⟨.tup [], [(id, some ⟨ob.ty, putCells ob.cells off x.flat, false⟩)], 0⟩ : Res) else .fail
      | _, _ => (.fail : Rd Res)).run ob = some (r, l) ∧ k r l := by
  unfold stM at h
  split at h
  · rename_i id off hs
    rw [hs]
    simp only
    split at h
    · rename_i o ho
      split at h
      · exact h.elim
      · rename_i hfz
        split at h
        · rename_i cs hm
          obtain ⟨hlt, hk⟩ := h
          have hne : o.cells ≠ [] := by intro e; rw [e] at hlt; simp at hlt
          obtain ⟨l1, l2⟩ := mergeL_leaf hm hne
          have hok : x.ok = true := by
            cases x <;> first | exact l1 | (simp [V.leaf] at l1)
          refine ⟨_, [id], ?_, hk⟩
          refine Rd.look_run ho ?_
          have hcs := mergeL_eq hm (Nat.zero_le _) (by omega)
          rw [Nat.sub_zero] at hcs
          rw [hok, l2, ← hcs]
          have : decide (off + 1 ≤ o.cells.length) = true := decide_eq_true hlt
          simp [this, hfz, Rd.run]
        · exact h.elim
    · exact h.elim
  · exact h.elim

theorem opS_sound (hvw : VwOk P S.vw) (hsp : SpecsOk P E S.sp) {m : Nat} {e : TypeId} {fo : Nat} {ρ : Operand → V} {t g : Nat} {o : Oper} {k : Res → List Id → Prop} (h : opS P E S m e fo ρ t g o ob k) :
    ∃ C, OkC P E C ∧ ∃ r l, (core P E C ρ t g o).run ob = some (r, l) ∧ k r l := by
  unfold opS at h
  split at h
  · rename_i op ty x y p ho
    obtain ⟨v, h1, h2⟩ := binS_sound h
    refine ⟨noC, noC_ok, _, _, ?_, h2⟩
    simp only [core, ho]
    exact val_run h1
  · rename_i src dst x ho
    split at h
    · rename_i kd1 kd2 kd3 n h1 h2 h3
      obtain ⟨h4, h5⟩ := h
      refine ⟨noC, noC_ok, _, _, ?_, h5⟩
      simp only [core, ho, h1, h2, h3]
      rw [inK_wrap h4]; rfl
    · exact h.elim
  · rename_i ty x ho
    split at h
    · rename_i kd n hx
      obtain ⟨h1, h2⟩ := h
      refine ⟨noC, noC_ok, _, _, ?_, h2⟩
      simp only [core, ho, hx, vUn]
      rw [inK_wrap h1]; rfl
    · exact h.elim
  · rename_i c ho
    split at h
    · rename_i f hc
      obtain ⟨C, h1, r, l, h2, h3⟩ := callS_sound hvw hsp h
      refine ⟨C, h1, r, l, ?_, h3⟩
      simp only [core, ho, hc]
      exact h2
    · rename_i hc
      split at h
      · rename_i ty ty2 s x w hat har hw
        split at h
        · exact h.elim
        · exact h.elim
        · rename_i d hd2 hd1
          have hwo := hvw _ _ hw
          obtain ⟨r, l, h1, h2⟩ := appS_sound hwo h
          refine ⟨noC, noC_ok, r, l, ?_, h2⟩
          simp only [core, ho, hc, hat, har]
          split
          · rename_i kd hk; rw [hd1] at hk; exact absurd (Option.some.inj hk) (hd2 kd)
          · rename_i hk; rw [hd1] at hk; cases hk
          · exact h1
      · exact h.elim
    · rename_i hc
      split at h
      · rename_i ty tys v vs w hat har hw
        split at h
        · rename_i e' hu
          obtain ⟨v', h1, h2⟩ := lenS_sound h
          refine ⟨noC, noC_ok, _, _, ?_, h2⟩
          simp only [core, ho, hc, hat, har, hu]
          exact val_run h1
        · exact h.elim
      · exact h.elim
    · exact h.elim
  · rename_i ty a ho
    split at h
    · rename_i w hw
      obtain ⟨v, l, h1, h2⟩ := ldS_sound (hvw _ _ hw) h
      refine ⟨noC, noC_ok, _, l, ?_, h2⟩
      simp only [core, ho]
      exact h1
    · exact h.elim
  · rename_i ty a x ho
    split at h
    · obtain ⟨r, l, h1, h2⟩ := stM_sound h
      refine ⟨noC, noC_ok, _, l, ?_, h2⟩
      simp only [core, ho]
      exact h1
    · split at h
      · rename_i w hw
        obtain ⟨r, l, h1, h2⟩ := stS_sound (hvw _ _ hw) h
        refine ⟨noC, noC_ok, _, l, ?_, h2⟩
        simp only [core, ho]
        exact h1
      · exact h.elim
  · rename_i ty x i ho
    split at h
    · rename_i w hw
      obtain ⟨v, h1, h2⟩ := idxAddrS_sound (hvw _ _ hw) h
      refine ⟨noC, noC_ok, _, _, ?_, h2⟩
      simp only [core, ho]
      exact val_run h1
    · exact h.elim
  · rename_i ty x i ho
    split at h
    · rename_i w hw
      obtain ⟨v, h1, h2⟩ := idxS_sound (hvw _ _ hw) h
      refine ⟨noC, noC_ok, _, _, ?_, h2⟩
      simp only [core, ho]
      exact val_run h1
    · exact h.elim
  · rename_i ty x lo hi mx ho
    split at h
    · rename_i w hw
      obtain ⟨v, h1, h2⟩ := slS_sound (hvw _ _ hw) h
      refine ⟨noC, noC_ok, _, _, ?_, h2⟩
      simp only [core, ho]
      rw [Rd.run_bind_eq _ h1]; rfl
    · exact h.elim
  · exact h.elim
end
end Go.Vi

/- Vi, part 35: regions whose operations are told one by one. -/
set_option linter.unusedVariables false
set_option linter.unusedSimpArgs false
namespace Go.Vi
/-- What an operation may do. -/
def EffR (P : Program) (E : Env) (ops : Array Oper) (o : Oper) (s : St) (e : Eff) : Prop := ∃ C, OkC P E C ∧ effOf P E C ops o s = some e

def EffsR (P : Program) (E : Env) (ops : Array Oper) : List Oper → St → List Eff → St → Prop
  | [], s, es, sn => es = [] ∧ sn = s
  | o :: l, s, es, sn => ∃ e es', es = e :: es' ∧ EffR P E ops o s e ∧ EffsR P E ops l (s.app e) es' sn

section
variable {P : Program} {E : Env} {S : Sy} {ops : Array Oper} {w0 : World} {H0 : Hp} {β0 : Bt}

theorem BIF_case {b : Bool} {p q : Prop} (h : BIF b p q) : (b = true ∧ p) ∨ (b = false ∧ q) := by
  cases b with
  | true => exact .inl ⟨rfl, h⟩
  | false => exact .inr ⟨rfl, h⟩

theorem coreS_sound (hvw : VwOk P S.vw) (hsp : SpecsOk P E S.sp) (hmk : ∀ n p, S.tag n p → p) {key : Nat} {ρ : Operand → V} {t g : Nat} {o : Oper} {ob : Id → Option Ob} {k : Res → List Id → Prop} (h : coreS P E S key ρ t g o ob k) :
    ∃ C, OkC P E C ∧ ∃ r l, (core P E C ρ t g o).run ob = some (r, l) ∧ k r l := by
  unfold coreS at h
  replace h := hmk _ _ h
  have conc : runK ((core P E noC ρ t g o).run ob) k → ∃ C, OkC P E C ∧ ∃ r l, (core P E C ρ t g o).run ob = some (r, l) ∧ k r l := by
    intro h
    unfold runK at h
    split at h
    · rename_i r l hr; exact ⟨noC, noC_ok, r, l, hr, h⟩
    · exact h.elim
  split at h
  · split at h
    · exact conc h
    · exact opS_sound hvw hsp h
  · split at h
    · exact opS_sound hvw hsp h
    · exact conc h

theorem wantS_sound {tm : Nat → V} {o : Oper} {k : Bool → (Nat → V) → Prop} (h : wantS ops tm o k) : ∃ b, want ops tm o = some b ∧ k b tm := by
  unfold wantS at h
  unfold want
  split at h
  · rename_i hg; rw [hg]; exact ⟨true, rfl, h⟩
  · rename_i j w hg
    rw [hg]
    simp only
    split at h
    · rename_i t ht
      rw [ht]
      simp only
      split at h
      · rename_i b hb
        rw [hb]
        rcases BIF_case h with ⟨rfl, h⟩ | ⟨rfl, h⟩
        · rw [tellT_same hb] at h; exact ⟨_, rfl, h⟩
        · rw [tellT_same hb] at h; exact ⟨_, rfl, h⟩
      · rename_i l hl; rw [hl]; exact ⟨false, rfl, h⟩
      · exact h.elim
    · exact h.elim

theorem effS_sound (hvw : VwOk P S.vw) (hsp : SpecsOk P E S.sp) (hmk : ∀ n p, S.tag n p → p) {o : Oper} {s : St} {k : Eff → St → Prop} (h : effS P E S ops o s k) : ∃ e, EffR P E ops o s e ∧ k e s := by
  unfold effS at h
  split at h
  · exact h.elim
  · rename_i hd
    obtain ⟨b, hb, h⟩ := wantS_sound h
    cases b with
    | false =>
      refine ⟨_, ⟨noC, noC_ok, ?_⟩, h⟩
      unfold effOf
      rw [if_neg hd, hb]
    | true =>
      obtain ⟨C, hC, r, l, h1, h2⟩ := coreS_sound hvw hsp hmk h
      split at h2
      · exact h2.elim
      · rename_i hn
        refine ⟨_, ⟨C, hC, ?_⟩, h2⟩
        unfold effOf
        rw [if_neg hd, hb]
        simp only
        rw [h1]
        simp only
        rw [if_neg hn]

theorem effsS_sound (hvw : VwOk P S.vw) (hsp : SpecsOk P E S.sp) (hmk : ∀ n p, S.tag n p → p) : ∀ {l : List Oper} {s : St} {k : List Eff → St → Prop}, effsS P E S ops l s k → ∃ es sn, EffsR P E ops l s es sn ∧ k es sn
  | [], s, k, h => ⟨[], s, ⟨rfl, rfl⟩, h⟩
  | o :: l, s, k, h => by
    simp only [effsS] at h
    obtain ⟨e, h1, h2⟩ := effS_sound hvw hsp hmk h
    obtain ⟨es, sn, h3, h4⟩ := effsS_sound hvw hsp hmk h2
    exact ⟨_, sn, ⟨e, es, rfl, h1, h3⟩, h4⟩

theorem effsR_spec : ∀ {l : List Oper} {s sn : St} {es : List Eff}, EffsR P E ops l s es sn → es.length = l.length ∧ sn = appD (fun _ => true) 0 es s ∧
    ∀ (i : Nat) (o : Oper), l[i]? = some o → ∃ e, es[i]? = some e ∧ EffR P E ops o (appD (fun j => decide (j < i)) 0 es s) e
  | [], s, sn, es, h => by
    obtain ⟨rfl, rfl⟩ := h
    exact ⟨rfl, rfl, fun i o hi => by simp at hi⟩
  | o :: l, s, sn, es, h => by
    obtain ⟨e, es', rfl, he, hr⟩ := h
    obtain ⟨q1, q2, q3⟩ := effsR_spec hr
    have sh : ∀ (D : Nat → Bool) (es : List Eff) (k : Nat) (s : St), appD D (k + 1) es s = appD (fun j => D (j + 1)) k es s := by
      intro D es
      induction es with
      | nil => intro k s; rfl
      | cons e es ih => intro k s; simp only [appD]; exact ih (k + 1) _
    refine ⟨by simp [q1], ?_, fun i o' hi => ?_⟩
    · simp only [appD, if_true, sh]; exact q2
    · cases i with
      | zero =>
        simp at hi; subst hi
        refine ⟨e, rfl, ?_⟩
        have : ∀ (es : List Eff) (k : Nat) (s : St), appD (fun j => decide (j < 0)) k es s = s := by
          intro es
          induction es with
          | nil => intro k s; rfl
          | cons e es ih => intro k s; simp only [appD]; simp only [Nat.not_lt_zero, decide_false, Bool.false_eq_true, if_false]; exact ih _ _
        rw [this]; exact he
      | succ i =>
        obtain ⟨e', p1, p2⟩ := q3 i o' (by simpa using hi)
        refine ⟨e', by simpa using p1, ?_⟩
        simp only [appD, Nat.zero_lt_succ, decide_true, if_true, sh]
        have hf : (fun j => decide (j + 1 < i + 1)) = (fun j => decide (j < i)) := by funext j; simp
        rw [hf]; exact p2

theorem drawR_any (hB : Bor β0) (hG : GOK P E H0) {s sn : St} {es : List Eff} (hes : EffsR P E ops ops.toList s es sn) (hT : tmpsApart ops = true) (hA : effsApart es (loudPairs ops) = true)
    {Q : Exit → Act → World → Prop} (hQ : ∀ H' β' a' w', Sim P E w0 H0 β0 H' β' sn a' w' → Q .normal a' w') :
    ∀ (fuel : Nat) (listed : Array Bool) (H : Hp) (β : Bt) (a : Act) (w : World), listed.size = ops.size →
      (∀ (j : Nat) (o : Oper), ops[j]? = some o → listed.getD j false = true → ∀ e ∈ o.after, Region.binds .any e = true → listed.getD e.on false = true) →
      ((List.range ops.size).filter fun j => !listed.getD j false).length ≤ fuel →
      Sim P E w0 H0 β0 H β (appD (fun j => listed.getD j false) 0 es s) a w → wpAny P .any ops Q fuel listed a w := by
  obtain ⟨el, esn, eff⟩ := effsR_spec hes
  have hlen : es.length = ops.size := by simpa using el
  have hop : ∀ j, j < ops.size → ∃ o e, ops[j]? = some o ∧ es[j]? = some e ∧ EffR P E ops o (appD (fun k => decide (k < j)) 0 es s) e := by
    intro j hj
    obtain ⟨e, h1, h2⟩ := eff j ops[j] (by simp [hj])
    exact ⟨ops[j], e, by simp [hj], h1, h2⟩
  have hq : ∀ (j : Nat) (o : Oper) (e : Eff), ops[j]? = some o → es[j]? = some e → touches o.op = false → e.up = [] ∧ e.rd = [] := by
    intro j o e h1 h2 ht
    have hj : j < ops.size := (Array.getElem?_eq_some_iff.1 h1).1
    obtain ⟨o', e', p1, p2, p3⟩ := hop j hj
    rw [h1] at p1; cases p1
    rw [h2] at p2; cases p2
    obtain ⟨C, _, p3⟩ := p3
    exact effOf_quiet ht p3
  have hdst : ∀ (j : Nat) (o : Oper) (e : Eff), ops[j]? = some o → es[j]? = some e → e.dst = o.dst ∧ ∀ d, o.dst = some d → d < s.n := by
    intro j o e h1 h2
    have hj : j < ops.size := (Array.getElem?_eq_some_iff.1 h1).1
    obtain ⟨o', e', p1, p2, p3⟩ := hop j hj
    rw [h1] at p1; cases p1
    rw [h2] at p2; cases p2
    obtain ⟨C, _, p3⟩ := p3
    exact ⟨effOf_dst p3, fun d hd => by have := effOf_lt p3 hd; rwa [appD_n] at this⟩
  have hnone : ∀ (listed : Array Bool), listed.size = ops.size → Region.ready .any ops listed = [] → ∀ j, j < ops.size → listed.getD j false = true := by
    intro listed hsz hr
    have key : ∀ n, ∀ j, j ≤ n → j < ops.size → listed.getD j false = true := by
      intro n
      induction n with
      | zero =>
        intro j hj hlt
        have hj0 : j = 0 := by omega
        subst hj0
        cases hl : listed.getD 0 false with
        | true => rfl
        | false =>
          have : 0 ∈ Region.ready .any ops listed := mem_ready.2 ⟨by
            have h0 : listed[0]? = some listed[0] := by simp [hsz, hlt]
            rw [Array.getD_eq_getD_getElem?, h0] at hl ⊢; simpa using hl, ops[0], by simp [hlt], fun e he hb => by have := edges_get hT (j := 0) (o := ops[0]) (by simp [hlt]) he hb; omega⟩
          rw [hr] at this; simp at this
      | succ n ih =>
        intro j hj hlt
        by_cases hjn : j ≤ n
        · exact ih j hjn hlt
        · cases hl : listed.getD j false with
          | true => rfl
          | false =>
            have : j ∈ Region.ready .any ops listed := mem_ready.2 ⟨by
              have h0 : listed[j]? = some (listed[j]'(by omega)) := by simp
              rw [Array.getD_eq_getD_getElem?, h0] at hl ⊢; simpa using hl, ops[j], by simp [hlt], fun e he hb => by
                have := edges_get hT (j := j) (o := ops[j]) (by simp [hlt]) he hb
                exact ih e.on (by omega) (by omega)⟩
            rw [hr] at this; simp at this
    exact fun j hj => key j j (Nat.le_refl _) hj
  have hfin : ∀ (listed : Array Bool), (∀ j, j < ops.size → listed.getD j false = true) → appD (fun j => listed.getD j false) 0 es s = sn := by
    intro listed h
    rw [esn]
    exact appD_congr es 0 s fun j hj => by simp only [Nat.zero_add]; exact h j (by omega)
  intro fuel
  induction fuel with
  | zero =>
    intro listed H β a w hsz hcl hcnt hs
    have hall : ∀ j, j < ops.size → listed.getD j false = true := by
      intro j hj
      cases hl : listed.getD j false with
      | true => rfl
      | false =>
        have : j ∈ (List.range ops.size).filter fun j => !listed.getD j false := List.mem_filter.2 ⟨List.mem_range.2 hj, by simp only [hl]; rfl⟩
        have hp := List.length_pos_of_mem this
        omega
    refine ⟨?_, hQ _ _ _ _ (by rw [← hfin listed hall]; exact hs)⟩
    apply List.eq_nil_iff_forall_not_mem.2
    intro j hj
    obtain ⟨h1, o, h2, _⟩ := mem_ready.1 hj
    have hlt : j < ops.size := (Array.getElem?_eq_some_iff.1 h2).1
    have h0 : listed[j]? = some (listed[j]'(by omega)) := by simp
    have h3 := hall j hlt
    rw [Array.getD_eq_getD_getElem?, h0] at h1 h3
    simp at h1 h3
    rw [h1] at h3; simp at h3
  | succ fuel ih =>
    intro listed H β a w hsz hcl hcnt hs
    refine ⟨fun hr => hQ _ _ _ _ (by rw [← hfin listed (hnone listed hsz hr)]; exact hs), fun i hi => ?_⟩
    obtain ⟨h1, oi, hoi, hedge⟩ := mem_ready.1 hi
    have hilt : i < ops.size := (Array.getElem?_eq_some_iff.1 hoi).1
    have hDi : listed.getD i false = false := by
      have h0 : listed[i]? = some (listed[i]'(by omega)) := by simp
      rw [Array.getD_eq_getD_getElem?, h0] at h1 ⊢; simpa using h1
    obtain ⟨o', ei, p1, hei, C, hC, heff⟩ := hop i hilt
    rw [hoi] at p1; cases p1
    -- who stands where
    have hord : ∀ j, j < ops.size → j ≠ i → (listed.getD j false = decide (j < i)) ∨ (∀ o f, ops[j]? = some o → es[j]? = some f → Free ops i j oi o ei f ∧ Free ops j i o oi f ei) := by
      intro j hj hne
      by_cases hlt : j < i
      · cases hb : ((Region.before ops).getD i 0).testBit j with
        | true =>
          left
          have := before_spec (fun k => listed.getD k false = true) hcl i oi hoi hedge j hb
          rw [this]; simp [hlt]
        | false =>
          right
          intro o f ho hf
          have hm := loose_mem hlt hilt hb
          have := free_of hT hA hm ho hoi hf hei (hq j o f ho hf) (hq i oi ei hoi hei)
          exact ⟨this.2, this.1⟩
      · have hgt : i < j := by omega
        cases hb : ((Region.before ops).getD j 0).testBit i with
        | true =>
          left
          cases hl : listed.getD j false with
          | false => simp [hlt]
          | true =>
            have hoj : ops[j]? = some ops[j] := by simp [hj]
            have := before_spec (fun k => listed.getD k false = true) hcl j ops[j] hoj (hcl j ops[j] hoj hl) i hb
            rw [hDi] at this; simp at this
        | false =>
          right
          intro o f ho hf
          exact free_of hT hA (loose_mem hgt hj hb) hoi ho hei hf (hq i oi ei hoi hei) (hq j o f ho hf)
    have hesj : ∀ (j : Nat) (f : Eff), es[j]? = some f → j < ops.size ∧ ∃ o, ops[j]? = some o ∧ f.dst = o.dst ∧ ∀ d, o.dst = some d → d < s.n := by
      intro j f hf
      have hj : j < ops.size := by rw [← hlen]; exact (List.getElem?_eq_some_iff.1 hf).1
      have ho : ops[j]? = some ops[j] := by simp [hj]
      obtain ⟨q1, q2⟩ := hdst j ops[j] f ho hf
      exact ⟨hj, ops[j], ho, q1, q2⟩
    -- the operation's doing is the text's
    have heff' : effOf P E C ops oi (appD (fun j => listed.getD j false) 0 es s) = some ei := by
      refine effOf_congr heff (by rw [appD_n, appD_n]) (fun t ht => ?_) ?_ (fun id hid => ?_)
      · refine appD_tm _ _ t es 0 s s rfl fun j f hf hd => ?_
        simp only [Nat.zero_add]
        obtain ⟨hj, o, ho, q1, q2⟩ := hesj j f hf
        by_cases hji : j = i
        · subst hji; simp [hDi]
        · rcases hord j hj hji with h | h
          · exact h
          · exact absurd ht ((h o f ho hf).1.d1 t (by rw [← q1]; exact hd))
      · rw [appD_n]
        refine appD_nx _ _ _ es 0 s s rfl fun j f hf hd => ?_
        simp only [Nat.zero_add]
        obtain ⟨hj, o, ho, q1, q2⟩ := hesj j f hf
        by_cases hji : j = i
        · subst hji; simp [hDi]
        · rcases hord j hj hji with h | h
          · exact h
          · exfalso
            rw [q1] at hd
            cases hdi : oi.dst with
            | none => rw [hdi] at hd; have := q2 _ hd; simp at this
            | some d =>
              rw [hdi] at hd
              exact (h o f ho hf).1.d2 d hdi hd
      · refine appD_ob _ _ id es 0 s s rfl fun j f hf hd => ?_
        simp only [Nat.zero_add]
        obtain ⟨hj, o, ho, q1, q2⟩ := hesj j f hf
        by_cases hji : j = i
        · subst hji; simp [hDi]
        · rcases hord j hj hji with h | h
          · exact h
          · exact absurd hid ((h o f ho hf).1.u1 id hd)
    refine eff_sound hC hB hG hs hoi heff' fun H' β' a' w' hs' => ?_
    have hD' : ∀ j, (listed.setIfInBounds i true).getD j false = (listed.getD j false || decide (j = i)) := by
      intro j
      by_cases hji : j = i
      · subst hji
        simp [hsz, hilt]
      · rw [getD_set_ne false (fun e => hji e.symm)]
        simp [hji]
    refine ih _ H' β' a' w' (by simpa using hsz) ?_ ?_ ?_
    · intro j o ho hl e he hb
      rw [hD'] at hl ⊢
      simp only [Bool.or_eq_true, decide_eq_true_eq] at hl ⊢
      rcases hl with hl | rfl
      · exact .inl (hcl j o ho hl e he hb)
      · rw [hoi] at ho; cases ho
        exact .inl (hedge e he hb)
    · have hsub : ((List.range ops.size).filter fun j => !(listed.setIfInBounds i true).getD j false) = ((List.range ops.size).filter fun j => !listed.getD j false).filter fun j => decide (j ≠ i) := by
        rw [List.filter_filter]
        apply List.filter_congr
        intro j _
        rw [hD']
        cases listed.getD j false <;> simp
      have hmem : i ∈ (List.range ops.size).filter fun j => !listed.getD j false := List.mem_filter.2 ⟨List.mem_range.2 hilt, by simp only [hDi]; rfl⟩
      have hlt : (((List.range ops.size).filter fun j => !listed.getD j false).filter fun j => decide (j ≠ i)).length < ((List.range ops.size).filter fun j => !listed.getD j false).length :=
        List.length_filter_lt_length_iff_exists.2 ⟨i, hmem, by simp⟩
      rw [hsub]
      omega
    · have hfun : (fun j => (listed.setIfInBounds i true).getD j false) = (fun j => listed.getD j false || decide (j = i)) := funext hD'
      rw [hfun, appD_add hDi es 0 s ⟨i, by simp, hei⟩ ?_]
      · exact hs'
      · intro j f hf hd hij
        simp only [Nat.zero_add] at hd hij
        obtain ⟨hj, o, ho, q1, q2⟩ := hesj j f hf
        rcases hord j hj (by omega) with h | h
        · rw [hd] at h; simp at h; omega
        · have hfree := (h o f ho hf).1
          have hei' := (hdst i oi ei hoi hei).1
          exact ⟨fun d hd => by rw [hei'] at hd; rw [q1]; exact hfree.d2 d hd, hfree.u2⟩


/-- A region in the order of the text. -/
theorem runR_sound (hB : Bor β0) (hG : GOK P E H0) {Q : Exit → Act → World → Prop} : ∀ (m k : Nat) (H : Hp) (β : Bt) (s sn : St) (es : List Eff) (a : Act) (w : World), k + m = ops.size → Sim P E w0 H0 β0 H β s a w →
    EffsR P E ops (ops.toList.drop k) s es sn → (∀ H' β' a' w', Sim P E w0 H0 β0 H' β' sn a' w' → Q .normal a' w') → wpOps P ops Q (List.range' k m) a w
  | 0, k, H, β, s, sn, es, a, w, hk, h, hr, hQ => by
    have : ops.toList.drop k = [] := by apply List.drop_eq_nil_of_le; simp; omega
    rw [this] at hr
    obtain ⟨_, rfl⟩ := hr
    exact hQ _ _ _ _ h
  | m + 1, k, H, β, s, sn, es, a, w, hk, h, hr, hQ => by
    have hlt : k < ops.size := by omega
    have hd : ops.toList.drop k = ops[k] :: ops.toList.drop (k + 1) := by
      rw [List.drop_eq_getElem_cons (by simpa using hlt)]; simp
    rw [hd] at hr
    obtain ⟨e, es', _, ⟨C, hC, he⟩, hr⟩ := hr
    rw [List.range'_succ, wpOps_cons]
    exact eff_sound hC hB hG h (i := k) (by simp [hlt]) he fun H' β' a' w' hs => runR_sound hB hG m (k + 1) H' β' _ sn es' a' w' (by omega) hs hr hQ

theorem triR (hmix : P.follows .mixedOrders = true) {id : Nat} {draw : Bool} {s sn : St} {es : List Eff} (h : EffsR P E ops ops.toList s es sn) (hd : draw = true → tmpsApart ops = true ∧ effsApart es (loudPairs ops) = true) :
    Tri P E (.region id ops draw) s .normal sn := by
  intro w0 H0 β0 hB hG H β a w Q hs hQ
  cases draw with
  | false =>
    refine wp_region ?_
    have := runR_sound (ops := ops) hB hG ops.size 0 H β s sn es a w (Nat.zero_add _) hs (by simpa using h) hQ
    rwa [← List.range_eq_range'] at this
  | true =>
    obtain ⟨c1, c2⟩ := hd rfl
    refine wp_region_any hmix ?_
    refine drawR_any hB hG h c1 c2 hQ ops.size _ H β a _ (by simp) ?_ ?_ ?_
    · intro j o _ hl
      rw [rep_false] at hl; simp at hl
    · have := List.length_filter_le (fun j => !(Array.replicate ops.size false).getD j false) (List.range ops.size)
      simpa using this
    · have : ∀ (es : List Eff) (k : Nat) (s : St), appD (fun j => (Array.replicate ops.size false).getD j false) k es s = s := by
        intro es
        induction es with
        | nil => intro k s; rfl
        | cons e es ih =>
          intro k s
          simp only [appD]
          have hf := rep_false ops.size k
          simp only [hf, Bool.false_eq_true, if_false]
          exact ih _ _
      rw [this]
      exact hs.drew
end
end Go.Vi

/- Vi, part 36: what a piece of code asks is enough. -/
set_option linter.unusedVariables false
set_option linter.unusedSimpArgs false
namespace Go.Vi
section
variable {P : Program} {E : Env} {S : Sy}

/-- What stays. -/
structure Stay (c : Code) (s s' : St) (d : List Id) : Prop where
  ob : ∀ id, id ∉ d → s'.ob id = none ∨ s'.ob id = s.ob id
  tm : ∀ t, spares t c = true → s'.tm t = .junk ∨ s'.tm t = s.tm t

theorem Stay.refl (c : Code) (s : St) : Stay c s s [] := ⟨fun _ _ => .inr rfl, fun _ _ => .inr rfl⟩

theorem Stay.trans' {c1 c2 c : Code} {s s1 s2 : St} {d1 d2 : List Id} (h1 : Stay c1 s s1 d1) (h2 : Stay c2 s1 s2 d2) (hs : ∀ t, spares t c = true → spares t c1 = true ∧ spares t c2 = true) : Stay c s s2 (d2 ++ d1) := by
  refine ⟨fun id hid => ?_, fun t ht => ?_⟩
  · simp only [List.mem_append, not_or] at hid
    rcases h2.ob id hid.1 with h | h
    · exact .inl h
    · rcases h1.ob id hid.2 with h' | h'
      · exact .inl (h.trans h')
      · exact .inr (h.trans h')
  · obtain ⟨a, b⟩ := hs t ht
    rcases h2.tm t b with h | h
    · exact .inl h
    · rcases h1.tm t a with h' | h'
      · exact .inl (h.trans h')
      · exact .inr (h.trans h')

theorem Stay.of {c c' : Code} {s s' : St} {d : List Id} (h : Stay c s s' d) (hs : ∀ t, spares t c' = true → spares t c = true) : Stay c' s s' d := ⟨h.ob, fun t ht => h.tm t (hs t ht)⟩

theorem effsR_stay {ops : Array Oper} : ∀ {l : List Oper} {s sn : St} {es : List Eff}, EffsR P E ops l s es sn → (∀ id, id ∉ upsOf es → sn.ob id = s.ob id) ∧ ∀ t, (∀ o ∈ l, o.dst ≠ some t) → sn.tm t = s.tm t
  | [], s, sn, es, h => by
    obtain ⟨rfl, rfl⟩ := h
    exact ⟨fun _ _ => rfl, fun _ _ => rfl⟩
  | o :: l, s, sn, es, h => by
    obtain ⟨e, es', rfl, ⟨C, _, he⟩, hr⟩ := h
    obtain ⟨h1, h2⟩ := effsR_stay hr
    refine ⟨fun id hid => ?_, fun t ht => ?_⟩
    · simp only [upsOf, List.flatMap_cons, List.mem_append, not_or] at hid
      rw [h1 id hid.2]
      exact applyUp_out hid.1
    · rw [h2 t fun o' ho' => ht o' (by simp [ho']), app_tm]
      rw [effOf_dst he]
      exact if_neg (ht o (by simp))

theorem getT_out : ∀ (l : List (Nat × V)) (t : Nat), getT l t = .junk ∨ ∃ v, (t, v) ∈ l ∧ getT l t = v
  | [], t => .inl rfl
  | (k, v) :: l, t => by
    simp only [getT]
    split
    · rename_i e; subst e; exact .inr ⟨v, by simp, rfl⟩
    · rcases getT_out l t with h | ⟨v', h1, h2⟩
      · exact .inl h
      · exact .inr ⟨v', by simp [h1], h2⟩

theorem getO_out : ∀ (l : List (Id × Ob)) (b : Id), getO l b = none ∨ ∃ o, (b, o) ∈ l ∧ getO l b = some o
  | [], b => .inl rfl
  | (k, v) :: l, b => by
    simp only [getO]
    split
    · rename_i e; subst e; exact .inr ⟨v, by simp, rfl⟩
    · rcases getO_out l b with h | ⟨v', h1, h2⟩
      · exact .inl h
      · exact .inr ⟨v', by simp [h1], h2⟩

theorem head_stay {A : LoopA} {s0 : St} {i : Nat} {x : A.X} {c : Code} (h : toldOk A c i x = true) : Stay c s0 (headS A s0 i x) ((A.O i x).map (·.1)) := by
  simp only [toldOk, Bool.and_eq_true, List.all_eq_true] at h
  refine ⟨fun id hid => ?_, fun t ht => ?_⟩
  · rcases getO_out (headO A s0 i x) id with h1 | ⟨o, h1, h2⟩
    · exact .inl h1
    · simp only [headO, List.mem_append, List.mem_map, List.mem_filterMap] at h1
      rcases h1 with ⟨q, hq, e⟩ | ⟨id', _, e⟩
      · simp only [Prod.mk.injEq] at e
        exact absurd (List.mem_map.2 ⟨q, hq, e.1⟩) hid
      · simp only [Option.map_eq_some_iff, Prod.mk.injEq] at e
        obtain ⟨o', h3, rfl, rfl⟩ := e
        exact .inr (h2.trans h3.symm)
  · rcases getT_out (headT A s0 i x) t with h1 | ⟨v, h1, h2⟩
    · exact .inl h1
    · simp only [headT, List.mem_append, List.mem_map] at h1
      rcases h1 with h1 | ⟨t', _, e⟩
      · have := h.1 _ h1
        simp [ht] at this
      · simp only [Prod.mk.injEq] at e
        obtain ⟨rfl, rfl⟩ := e
        exact .inr h2

theorem sameN_RN {g : Id → Option Id} : ∀ (d : Nat) (v : V), sameN g d v = true → RN g v v
  | 0, v, h => by simp [sameN] at h
  | d + 1, v, h => by
    have all : ∀ {l : List V}, l.all (sameN g d) = true → ∀ (k : Nat) y y', l[k]? = some y → l[k]? = some y' → RN g y y' := by
      intro l hl k y y' hy hy'
      rw [hy] at hy'
      obtain rfl := Option.some.inj hy'
      exact sameN_RN d _ (List.all_eq_true.1 hl _ (List.mem_of_getElem? hy))
    cases v with
    | junk => simp [sameN] at h
    | lp a off => simp only [sameN, decide_eq_true_eq] at h; exact .lp _ _ _ h
    | sl a off n e x => simp only [sameN, decide_eq_true_eq] at h; exact .sl _ _ _ _ _ _ h
    | agg l =>
      simp only [sameN] at h
      split at h
      · rename_i hn; exact .nv _ (by simpa [V.nv] using hn)
      · exact .agg _ _ rfl (all h)
    | tup l =>
      simp only [sameN] at h
      split at h
      · rename_i hn; exact .nv _ (by simpa [V.nv] using hn)
      · exact .tup _ _ rfl (all h)
    | fn f l => simp only [sameN] at h; exact .fn _ _ _ rfl (all h)
    | nl => exact .nl
    | e0 => exact .e0
    | int k n => exact .nv _ rfl
    | bool b => exact .nv _ rfl
    | str b => exact .nv _ rfl
    | fs l => exact .nv _ rfl
    | fp c o => exact .nv _ rfl

theorem obsW_get {s : St} {G : List (Id × Id)} : ∀ {O : List (Id × Bool × Ob)} {k : Prop}, obsW s G O k → (∀ b raw o', (b, raw, o') ∈ O →
    ∃ a o, oldOf G b = some a ∧ s.ob a = some o ∧ o'.ty = o.ty ∧ o'.fz = o.fz ∧ ((raw = true ∧ o.cells = o'.cells ∧ V.nv.nvs o'.cells = true) ∨ o.cells.map (rnF (newOf G) depth) = o'.cells)) ∧ k
  | [], k, h => ⟨fun b raw o' hm => (by simp at hm), h⟩
  | (b0, raw0, o0) :: l, k, h => by
    simp only [obsW] at h
    split at h
    · rename_i o ho
      split at h
      · rename_i hc
        simp only [Bool.and_eq_true, beq_iff_eq] at hc
        obtain ⟨a, h1, h2⟩ := Option.bind_eq_some_iff.1 ho
        have hrest : obsW s G l k ∧ ((raw0 = true ∧ o.cells = o0.cells ∧ V.nv.nvs o0.cells = true) ∨ o.cells.map (rnF (newOf G) depth) = o0.cells) := by
          split at h
          · exact ⟨h.2.2, .inl ⟨rfl, h.1, h.2.1⟩⟩
          · exact ⟨h.2, .inr h.1⟩
        obtain ⟨q1, q2⟩ := obsW_get hrest.1
        refine ⟨fun b raw o' hm => ?_, q2⟩
        simp only [List.mem_cons, Prod.mk.injEq] at hm
        rcases hm with ⟨rfl, rfl, rfl⟩ | hm
        · exact ⟨a, o, h1, h2, hc.1, hc.2, hrest.2⟩
        · exact q1 b raw o' hm
      · exact h.elim
    · exact h.elim

theorem rawK_get {s1 : St} : ∀ {l : List Id} {k : Prop}, rawK s1 l k → ∀ id ∈ l, ∀ o, s1.ob id = some o → V.nv.nvs o.cells = true
  | [], k, h, id, hm, o, ho => by simp at hm
  | a :: l, k, h, id, hm, o, ho => by
    simp only [rawK] at h
    split at h
    · rename_i o1 ho1
      simp only [List.mem_cons] at hm
      rcases hm with rfl | hm
      · rw [ho1] at ho; obtain rfl := Option.some.inj ho; exact h.1
      · exact rawK_get h.2 id hm o ho
    · exact h.elim

theorem keptI_free {A : LoopA} {s0 : St} {i : Nat} {x : A.X} {id : Id} (h : id ∈ keptI A s0 i x) : id ∉ (A.O i x).map (·.1) := by
  have key : ((A.O i x).any fun q => decide (q.1 = id)) = false → id ∉ (A.O i x).map (·.1) := by
    intro hn hm
    obtain ⟨q, hq, rfl⟩ := List.mem_map.1 hm
    simp only [List.any_eq_false, decide_eq_true_eq] at hn
    exact hn q hq rfl
  unfold keptI at h
  simp only [List.mem_append, List.mem_filter, mem_dedup, Bool.and_eq_true, Bool.not_eq_true'] at h
  rcases h with (h | h) | h
  · exact key h.2.1
  · exact key h.2.1
  · exact key h.2

theorem weakS_sound {A : LoopA} {s0 s1 : St} {d : List Id} {i : Nat} {x : A.X} (hn : s1.n = s0.n) (hk : ∀ t ∈ A.keep, s1.tm t = .junk ∨ s1.tm t = s0.tm t) (ho : ∀ id, id ∉ (A.O i x).map (·.1) → id ∉ d → s1.ob id = none ∨ s1.ob id = s0.ob id)
    (h : weakS A s0 s1 d i x) : Weak P E s1 (headS A s0 i x) := by
  unfold weakS at h
  simp only at h
  generalize hGG : matchO s1 (A.O i x) (addG [] ((A.T i x).flatMap (fun p => matchV depth p.2 (s1.tm p.1)) ++ idP (A.keep.flatMap fun t => refs true depth (s0.tm t)) ++ idP (keptI A s0 i x))) = G at h
  split at h
  · rename_i hc
    simp only [Bool.and_eq_true, List.all_eq_true] at hc
    obtain ⟨⟨hG, hkeep⟩, hkept⟩ := hc
    obtain ⟨h1, h2⟩ := h
    obtain ⟨h2, h3⟩ := obsW_get h2
    refine weak_mk hn hG (fun t v hm => ?_) (fun b o' hm => ?_)
    · simp only [headT, List.mem_append, List.mem_map, Prod.mk.injEq] at hm
      rcases hm with hm | ⟨t', ht', rfl, rfl⟩
      · have := List.map_inj_left.1 h1 _ hm
        simp only at this
        rw [← this]
        exact rnF_RN hG _ _
      · have hs := hkeep _ ht'
        have hr := sameN_RN _ _ hs
        rcases hk _ ht' with e | e
        · rw [e] at hs; simp [sameN, depth] at hs
        · rw [e] at hr ⊢; exact hr
    · simp only [headO, List.mem_append, List.mem_map, List.mem_filterMap] at hm
      rcases hm with ⟨⟨b0, raw, o0⟩, hm2, e⟩ | ⟨id, hid, e⟩
      · simp only [Prod.mk.injEq] at e
        obtain ⟨rfl, rfl⟩ := e
        obtain ⟨a, o, p1, p2, p3, p4, p5⟩ := h2 _ _ _ hm2
        refine ⟨a, o, p1, p2, p3, p4, ?_⟩
        rcases p5 with ⟨_, p5, p6⟩ | p5
        · rw [p5]
          refine ⟨rfl, fun k y y' hy hy' => ?_⟩
          rw [hy] at hy'
          obtain rfl := Option.some.inj hy'
          exact .nv _ (nvs_get p6 _ _ hy)
        · rw [← p5]
          refine ⟨by simp, fun k y y' hy hy' => ?_⟩
          simp only [List.getElem?_map, hy, Option.map_some, Option.some.injEq] at hy'
          subst hy'
          exact rnF_RN hG _ _
      · simp only [Option.map_eq_some_iff, Prod.mk.injEq] at e
        obtain ⟨o, ho0, rfl, rfl⟩ := e
        have hko := hkept _ hid
        simp only [keptOk, Bool.and_eq_true, Bool.not_eq_true', decide_eq_true_eq] at hko
        obtain ⟨⟨k1, k2⟩, k3⟩ := hko
        split at k3
        · rename_i o1 ho1
          have hnd : id ∉ d := by
            intro hm
            have := List.contains_iff_mem.2 hm
            rw [this] at k1; cases k1
          have heq : o1 = o := by
            rcases ho id (keptI_free hid) hnd with e | e
            · rw [ho1] at e; cases e
            · rw [ho1, ho0] at e; exact Option.some.inj e
          subst heq
          refine ⟨id, o1, k2, ho1, rfl, rfl, rfl, fun k y y' hy hy' => ?_⟩
          rw [hy] at hy'
          obtain rfl := Option.some.inj hy'
          simp only [Bool.or_eq_true] at k3
          rcases k3 with k3 | k3
          · exact .nv _ (nvs_get (rawK_get h3 id (List.contains_iff_mem.1 k3) _ ho1) _ _ hy)
          · exact sameN_RN _ _ (List.all_eq_true.1 k3 _ (List.mem_of_getElem? hy))
        · cases k3
  · exact h.elim

theorem pickS_sound {A : LoopA} {s0 s1 : St} {d : List Id} {x : A.X} {I : Nat → Prop} (hk : ∀ t ∈ A.keep, s1.tm t = .junk ∨ s1.tm t = s0.tm t) : ∀ {n i : Nat}, (∀ j, i ≤ j → j < i + n → I j → ∀ id, id ∉ (A.O j x).map (·.1) → id ∉ d → s1.ob id = none ∨ s1.ob id = s0.ob id) →
    pickS A s0 s1 d x I n i → ∃ j, i ≤ j ∧ j < i + n ∧ I j ∧ Weak P E s1 (headS A s0 j x)
  | 0, i, ho, h => by simp only [pickS] at h
  | n + 1, i, ho, h => by
    simp only [pickS] at h
    split at h
    · rename_i hf
      simp only [Bool.and_eq_true, beq_iff_eq] at hf
      exact ⟨i, Nat.le_refl _, by omega, h.1, weakS_sound hf.2 hk (ho i (Nat.le_refl _) (by omega) h.1) h.2⟩
    · obtain ⟨j, h1, h2, h3, h4⟩ := pickS_sound hk (fun j h1 h2 => ho j (by omega) (by omega)) h
      exact ⟨j, by omega, by omega, h3, h4⟩

theorem shapes_get {f : Nat → Prop} : ∀ {n i j : Nat}, shapes f n i → i ≤ j → j < i + n → f j
  | 0, i, j, h, h1, h2 => by omega
  | 1, i, j, h, h1, h2 => by
    have : j = i := by omega
    subst this; exact h
  | n + 2, i, j, h, h1, h2 => by
    by_cases hj : j = i
    · subst hj; exact h.1
    · exact shapes_get (n := n + 1) (i := i + 1) h.2 (by omega) (by omega)

theorem iterS_sound {c : Code} {f : St → List Id → (Ex → St → List Id → Prop) → Prop} (hf : ∀ s ws k, f s ws k → ∃ e s' d, Tri P E c s e s' ∧ k e s' (d ++ ws) ∧ Stay c s s' d) :
    ∀ (n : Nat) (s : St) (ws : List Id) (k : Ex → St → List Id → Prop), iterS f n s ws k → ∃ m e s' d, TriN P E c m s e s' ∧ k e s' (d ++ ws) ∧ Stay c s s' d
  | 0, s, ws, k, h => by simp only [iterS] at h
  | n + 1, s, ws, k, h => by
    simp only [iterS] at h
    obtain ⟨e, s1, d, h1, h2, h5⟩ := hf _ _ _ h
    cases e with
    | normal =>
      obtain ⟨m, e, s', d', h3, h4, h6⟩ := iterS_sound hf n s1 _ k h2
      exact ⟨m + 1, e, s', d' ++ d, TriN.round h1 h3, by rw [List.append_assoc]; exact h4, h5.trans' h6 fun t ht => ⟨ht, ht⟩⟩
    | exit id => exact ⟨1, _, _, d, TriN.out (n := 0) h1 (by intro e; cases e), h2, h5⟩
    | ret => exact ⟨1, _, _, d, TriN.out (n := 0) h1 (by intro e; cases e), h2, h5⟩

theorem tri_cond {x : Operand} {c1 c2 : Code} {s s' : St} {e : Ex} {b : Bool} (hx : evO E s.tm x = .bool b) (h : Tri P E (if b then c1 else c2) s e s') : Tri P E (.cond x c1 c2) s e s' := by
  intro w0 H0 β0 hB hG H β a w Q hs hQ
  have hv := hs.ev hG x
  rw [hx] at hv
  cases b with
  | true =>
    cases hq : a.eval x <;> rw [hq] at hv <;> cases hv
    exact wp_cond_true hq (h w0 H0 β0 hB hG H β a w Q hs hQ)
  | false =>
    cases hq : a.eval x <;> rw [hq] at hv <;> cases hv
    exact wp_cond_false hq (h w0 H0 β0 hB hG H β a w Q hs hQ)

theorem outB_sound {id : Nat} {c : Code} {s s' : St} {e : Ex} {ws : List Id} {k : Ex → St → List Id → Prop} (h : Tri P E c s e s') (hk : outB id k e s' ws) : ∃ e', Tri P E (.block id c) s e' s' ∧ k e' s' ws := by
  refine ⟨outOf id e, h.block, ?_⟩
  cases e with
  | normal => exact hk
  | ret => exact hk
  | exit id' =>
    simp only [outB] at hk
    simp only [outOf]
    split at hk
    · rename_i e; rw [if_pos e]; exact hk
    · rename_i e; rw [if_neg e]; exact hk

theorem told_get {A : LoopA} {c : Code} {i : Nat} {x : A.X} {p : Prop} (h : if toldOk A c i x then p else False) : toldOk A c i x = true ∧ p := by
  split at h
  · rename_i e; exact ⟨e, h⟩
  · exact h.elim

theorem told_keep {A : LoopA} {c : Code} {i : Nat} {x : A.X} (h : toldOk A c i x = true) : ∀ t ∈ A.keep, spares t c = true := by
  simp only [toldOk, Bool.and_eq_true, List.all_eq_true] at h
  exact h.2

theorem wpC_sound (hmix : P.follows .mixedOrders = true) (hvw : VwOk P S.vw) (hsp : SpecsOk P E S.sp) (hmk : ∀ n p, S.tag n p → p) : ∀ (c : Code) (lb : Nat) (s : St) (ws : List Id) (k : Ex → St → List Id → Prop), wpC P E S c lb s ws k → ∃ e s' d, Tri P E c s e s' ∧ k e s' (d ++ ws) ∧ Stay c s s' d := by
  intro c
  induction c with
  | skip => intro lb s ws k h; exact ⟨.normal, s, [], Tri.skip s, h, Stay.refl _ _⟩
  | label l => intro lb s ws k h; exact ⟨.normal, s, [], Tri.ev hmix noC_ok (fuel := 0) rfl, h, Stay.refl _ _⟩
  | exit id => intro lb s ws k h; exact ⟨.exit id, s, [], Tri.ev hmix noC_ok (fuel := 0) rfl, h, Stay.refl _ _⟩
  | ret => intro lb s ws k h; exact ⟨.ret, s, [], Tri.ev hmix noC_ok (fuel := 0) rfl, h, Stay.refl _ _⟩
  | region id ops draw =>
    intro lb s ws k h
    simp only [wpC] at h
    obtain ⟨es, sn, h1, h2⟩ := effsS_sound hvw hsp hmk h
    obtain ⟨q1, q2⟩ := effsR_stay h1
    have hst : Stay (.region id ops draw) s sn (upsOf es) := by
      refine ⟨fun i hi => .inr (q1 i hi), fun t ht => .inr (q2 t fun o ho => ?_)⟩
      simp only [spares, Array.all_eq_true_iff_forall_mem, bne_iff_ne] at ht
      exact ht o (by simpa using ho)
    cases draw with
    | true =>
      simp only at h2
      split at h2
      · rename_i hc
        simp only [Bool.and_eq_true] at hc
        exact ⟨_, _, _, triR hmix h1 (fun _ => hc), h2, hst⟩
      · exact h2.elim
    | false => exact ⟨_, _, _, triR hmix h1 (fun h => by cases h), h2, hst⟩
  | seq x y ihx ihy =>
    intro lb s ws k h
    simp only [wpC] at h
    obtain ⟨e, s1, d, h1, h2, h5⟩ := ihx _ _ _ _ h
    have hs : ∀ t, spares t (.seq x y) = true → spares t x = true ∧ spares t y = true := fun t ht => by simpa [spares] using ht
    cases e with
    | normal =>
      obtain ⟨e, s', d', h3, h4, h6⟩ := ihy _ _ _ _ h2
      exact ⟨e, s', d' ++ d, h1.seq h3, by rw [List.append_assoc]; exact h4, h5.trans' h6 hs⟩
    | exit id => exact ⟨_, _, d, h1.seq_out (by intro e; cases e), h2, h5.of fun t ht => (hs t ht).1⟩
    | ret => exact ⟨_, _, d, h1.seq_out (by intro e; cases e), h2, h5.of fun t ht => (hs t ht).1⟩
  | cond x c1 c2 ih1 ih2 =>
    intro lb s ws k h
    simp only [wpC] at h
    have hs : ∀ t, spares t (.cond x c1 c2) = true → spares t c1 = true ∧ spares t c2 = true := fun t ht => by simpa [spares] using ht
    have both : ∀ {v : Bool} {t1 t2 : Nat → V}, evO E s.tm x = .bool v → (v = true → t1 = s.tm) → (v = false → t2 = s.tm) →
        BIF v (wpC P E S c1 lb { s with tm := t1 } ws k) (wpC P E S c2 lb { s with tm := t2 } ws k) → ∃ e s' d, Tri P E (.cond x c1 c2) s e s' ∧ k e s' (d ++ ws) ∧ Stay (.cond x c1 c2) s s' d := by
      intro v t1 t2 hx e1 e2 h
      rcases BIF_case h with ⟨hv, h⟩ | ⟨hv, h⟩
      · rw [e1 hv] at h
        obtain ⟨e, s', d, h3, h4, h5⟩ := ih1 _ _ _ _ h
        exact ⟨e, s', d, tri_cond (b := true) (by rw [hx, hv]) h3, h4, h5.of fun t ht => (hs t ht).1⟩
      · rw [e2 hv] at h
        obtain ⟨e, s', d, h3, h4, h5⟩ := ih2 _ _ _ _ h
        exact ⟨e, s', d, tri_cond (b := false) (by rw [hx, hv]) h3, h4, h5.of fun t ht => (hs t ht).2⟩
    split at h
    · rename_i t v hv
      exact both hv (fun e => by subst e; exact tellT_same hv) (fun e => by subst e; exact tellT_same hv) h
    · rename_i v hx _ hv
      exact both hv (fun _ => rfl) (fun _ => rfl) h
    · exact h.elim
  | block id c ih =>
    intro lb s ws k h
    have hs : ∀ t, spares t (.block id c) = true → spares t c = true := fun t ht => by simpa [spares] using ht
    simp only [wpC] at h
    split at h
    · obtain ⟨e, s', d, h1, h2, h5⟩ := ih _ _ _ _ h
      obtain ⟨e', h3, h4⟩ := outB_sound h1 h2
      exact ⟨e', s', d, h3, h4, h5.of hs⟩
    · rename_i A hA
      obtain ⟨I, h, hsh⟩ := h
      obtain ⟨e, s', d, h1, h2, h5⟩ := ih _ _ _ _ h
      obtain ⟨e', h3, h4⟩ := outB_sound h1 h2
      cases e' with
      | normal =>
        simp only at h4
        rw [List.append_nil] at h4
        obtain ⟨x, hx⟩ := h4
        by_cases hA0 : ∃ j, j < A.n ∧ I j x
        · obtain ⟨j0, hj0, hI0⟩ := hA0
          have hkeep := told_keep (told_get (shapes_get hsh (Nat.zero_le j0) (by omega) x)).1
          obtain ⟨j, j1, j2, hI, hW⟩ := pickS_sound (P := P) (E := E) (fun t ht => h5.tm t (hkeep t ht)) (fun j _ _ _ id _ hd => h5.ob id hd) hx
          obtain ⟨ht, hk⟩ := told_get (shapes_get hsh j1 j2 x)
          exact ⟨.normal, headS A s j x, (A.O j x).map (·.1), h3.post hW, hk hI, (head_stay ht).of hs⟩
        · exfalso
          have : ∀ {n i : Nat}, i + n ≤ A.n → ¬ pickS A s s' d x (fun i => I i x) n i := by
            intro n
            induction n with
            | zero => intro i _ h; simp only [pickS] at h
            | succ n ihn =>
              intro i hi h
              simp only [pickS] at h
              split at h
              · exact hA0 ⟨i, by omega, h.1⟩
              · exact ihn (by omega) h
          exact this (by omega) hx
      | exit id =>
        simp only [List.append_nil] at h4
        exact ⟨_, _, d, h3, h4, h5.of hs⟩
      | ret =>
        simp only [List.append_nil] at h4
        exact ⟨_, _, d, h3, h4, h5.of hs⟩
  | loop c ih =>
    intro lb s ws k h
    have hs : ∀ t, spares t (.loop c) = true → spares t c = true := fun t ht => by simpa [spares] using ht
    simp only [wpC] at h
    split at h
    · obtain ⟨m, e, s', d, h1, h2, h3⟩ := iterS_sound (fun s ws k h => ih lb s ws k h) _ _ _ _ h
      exact ⟨e, s', d, Tri.loop h1, h2, h3.of hs⟩
    · rename_i A hA
      obtain ⟨I, mu, ⟨x, hx⟩, hsh⟩ := h
      obtain ⟨j, j1, j2, hI, hW⟩ := pickS_sound (P := P) (E := E) (fun t ht => .inr rfl) (fun j _ _ _ id _ _ => .inr rfl) hx
      have key : ∀ (m : Nat) (j : Nat) (x : A.X) (s1 : St), j < A.n → I j x → mu j x ≤ m → Weak P E s1 (headS A s j x) → ∃ N e s' d, TriN P E c N s1 e s' ∧ k e s' (d ++ ws) ∧ Stay c s s' d := by
        intro m
        induction m with
        | zero =>
          intro j x s1 hj hI hm hW
          obtain ⟨ht, hbody⟩ := told_get (shapes_get hsh (Nat.zero_le j) (by omega) x)
          obtain ⟨e, s2, d, h1, h2, h5⟩ := ih _ _ _ _ (hbody hI)
          have hst := (head_stay (s0 := s) ht).trans' h5 (c := c) fun t ht => ⟨ht, ht⟩
          cases e with
          | normal =>
            obtain ⟨x', hx'⟩ := h2
            have : ∀ {n i : Nat}, pickS A s s2 (d ++ (A.O j x).map (·.1)) x' (fun i => I i x' ∧ mu i x' < mu j x) n i → False := by
              intro n
              induction n with
              | zero => intro i h; simp only [pickS] at h
              | succ n ihn =>
                intro i h
                simp only [pickS] at h
                split at h
                · have := h.1.2; omega
                · exact ihn h
            exact (this hx').elim
          | exit id => exact ⟨1, _, _, _, TriN.pre hW (TriN.out (n := 0) h1 (by intro e; cases e)), h2, hst⟩
          | ret => exact ⟨1, _, _, _, TriN.pre hW (TriN.out (n := 0) h1 (by intro e; cases e)), h2, hst⟩
        | succ m ihm =>
          intro j x s1 hj hI hm hW
          obtain ⟨ht, hbody⟩ := told_get (shapes_get hsh (Nat.zero_le j) (by omega) x)
          obtain ⟨e, s2, d, h1, h2, h5⟩ := ih _ _ _ _ (hbody hI)
          have hh := head_stay (s0 := s) ht
          have hst := hh.trans' h5 (c := c) fun t ht => ⟨ht, ht⟩
          cases e with
          | normal =>
            obtain ⟨x', hx'⟩ := h2
            obtain ⟨j', q1, q2, hI', hW'⟩ := pickS_sound (P := P) (E := E) (fun t htk => hst.tm t (told_keep ht t htk)) (fun j' _ _ _ id hid hd => hst.ob id hd) hx'
            obtain ⟨N, e, s', d', h3, h4, h6⟩ := ihm j' x' s2 (by omega) hI'.1 (by have := hI'.2; omega) hW'
            exact ⟨N + 1, e, s', d', TriN.pre hW (TriN.round h1 h3), h4, h6⟩
          | exit id => exact ⟨1, _, _, _, TriN.pre hW (TriN.out (n := 0) h1 (by intro e; cases e)), h2, hst⟩
          | ret => exact ⟨1, _, _, _, TriN.pre hW (TriN.out (n := 0) h1 (by intro e; cases e)), h2, hst⟩
      obtain ⟨N, e, s', d, h1, h2, h3⟩ := key _ j x s (by omega) hI (Nat.le_refl _) hW
      exact ⟨e, s', d, Tri.loop h1, h2, h3.of hs⟩
  | _ => intro lb s ws k h; simp [wpC] at h

theorem wpF_sound (hmix : P.follows .mixedOrders = true) (hvw : VwOk P S.vw) (hsp : SpecsOk P E S.sp) (hmk : ∀ n p, S.tag n p → p) {f : FuncId} {args : List V} {bo : List Ob} {Q : V → List Ob → List Ob → Prop} (h : wpF P E S f args bo Q) : ∃ r bo' ro, Con P E f args bo r bo' ro ∧ Q r bo' ro := by
  unfold wpF at h
  split at h
  · rename_i fn hfn
    split at h
    · rename_i c hb
      obtain ⟨e, s', d, h1, h2, _⟩ := wpC_sound hmix hvw hsp hmk _ _ _ _ _ h
      cases e with
      | normal =>
        obtain ⟨r, bo', ro, h3, h4⟩ := packS_sound hvw hmk h2
        exact ⟨r, bo', ro, Tri.con hfn hb h1 (.inl rfl) h3, h4⟩
      | ret =>
        obtain ⟨r, bo', ro, h3, h4⟩ := packS_sound hvw hmk h2
        exact ⟨r, bo', ro, Tri.con hfn hb h1 (.inr rfl) h3, h4⟩
      | exit id => exact h2.elim
    · exact h.elim
  · exact h.elim

/-- A function's contract out of what its body asks. -/
theorem specOk (hmix : P.follows .mixedOrders = true) (hvw : VwOk P S.vw) (hsp : SpecsOk P E S.sp) (hmk : ∀ n p, S.tag n p → p) {f : FuncId} (hok : callOk P f = true) {pt : PT} (h : ∀ args bo Q, pt args bo Q → wpF P E S f args bo Q) : SpecOk P E f pt :=
  ⟨hok, fun args bo Q hp => wpF_sound hmix hvw hsp hmk (h args bo Q hp)⟩

theorem SpecsOk.nil : SpecsOk P E [] := fun p h => by simp at h
theorem SpecsOk.cons {f : FuncId} {pt : PT} {l : List (FuncId × PT)} (h : SpecOk P E f pt) (k : SpecsOk P E l) : SpecsOk P E ((f, pt) :: l) := fun p hp => by
  simp only [List.mem_cons] at hp
  rcases hp with rfl | hp
  · exact h
  · exact k p hp
end
end Go.Vi

/- Plain data, and how the interpreter sees it. -/
namespace Go.Vi

def vwInt : View := ⟨Int, V.int .i64, 1, false⟩
def vwStr : View := ⟨ByteArray, V.str, 1, false⟩
def vwU8 : View := ⟨UInt8, fun b => V.int .u8 b.toNat, 1, false⟩

structure Pl where
  f : Int
  a : Int
  b : Int
  c : Int
  deriving DecidableEq

def Pl.v (p : Pl) : V := .agg [.int .i64 p.f, .int .i64 p.a, .int .i64 p.b, .int .i64 p.c]
def vwPl : View := ⟨Pl, Pl.v, 4, true⟩

attribute [reducible] vwInt vwStr vwU8 vwPl

/-- Two numbers. -/
structure I2 where
  x : Int
  y : Int
  deriving DecidableEq
def I2.v (p : I2) : V := .agg [.int .i64 p.x, .int .i64 p.y]
def vwI2 : View := ⟨I2, I2.v, 2, true⟩
attribute [reducible] vwI2

/-- Three numbers. -/
structure I3 where
  x : Int
  y : Int
  z : Int
  deriving DecidableEq
def I3.v (p : I3) : V := .agg [.int .i64 p.x, .int .i64 p.y, .int .i64 p.z]
def vwI3 : View := ⟨I3, I3.v, 3, true⟩
attribute [reducible] vwI3

/-- A reader of numbers: its list, and how many it has read. -/
structure Rdr where
  l : List Int
  p : Int

def inR (x : Int) : Prop := -9223372036854775808 ≤ x ∧ x ≤ 9223372036854775807

structure Rdr.ok (r : Rdr) : Prop where
  lo : 0 ≤ r.p
  hi : r.p ≤ r.l.length
  len : r.l.length ≤ 2000
  el : ∀ x ∈ r.l, inR x

theorem BIF_in {b : Bool} {p q : Prop} (h1 : b = true → p) (h2 : b = false → q) : BIF b p q := by
  cases b with
  | true => exact h1 rfl
  | false => exact h2 rfl
theorem BIF_t {b : Bool} {p q : Prop} (h : b = true) (h1 : p) : BIF b p q := by subst h; exact h1
theorem BIF_f {b : Bool} {p q : Prop} (h : b = false) (h1 : q) : BIF b p q := by subst h; exact h1
theorem BIF_d {r : Prop} [Decidable r] {p q : Prop} (h1 : r → p) (h2 : ¬ r → q) : BIF (decide r) p q := BIF_in (fun h => h1 (of_decide_eq_true h)) (fun h => h2 (of_decide_eq_false h))
theorem BIF_n {b : Bool} {p q : Prop} (h1 : b = false → p) (h2 : b = true → q) : BIF (!b) p q := by
  cases b with
  | true => exact h2 rfl
  | false => exact h1 rfl
theorem BIF_e {a b : Int} {p q : Prop} (h1 : a = b → p) (h2 : a ≠ b → q) : BIF (a == b) p q := BIF_in (fun h => h1 (by simpa using h)) (fun h => h2 (by simpa using h))
theorem BIF_ne {a b : Int} {p q : Prop} (h1 : a ≠ b → p) (h2 : a = b → q) : BIF (a != b) p q := BIF_in (fun h => h1 (by simpa using h)) (fun h => h2 (by simpa using h))
theorem Qc {Q : V → List Ob → List Ob → Prop} {v v' : V} {a b : List Ob} (h : v = v') (hq : Q v' a b) : Q v a b := h ▸ hq
theorem b1 {x y : Bool} (h : x = true ↔ y = true) : V.bool x = V.bool y := by rw [Bool.eq_iff_iff.2 h]
theorem i1 {k : IntKind} {x y : Int} (h : x = y) : V.int k x = V.int k y := by rw [h]

theorem wrap_u8 (b : UInt8) : (0 : Int) ≤ b.toNat ∧ ((b.toNat : Nat) : Int) ≤ 255 := by
  have := b.toNat_lt
  omega
end Go.Vi

/- A law's arguments, as typed data; a nil slice is read like an empty one. -/
set_option linter.unusedSimpArgs false
namespace Go.Vi
open Go

/-- A nil slice as an empty one. -/
def den : V → V
  | .nl => .fs []
  | v => v

theorem RV.den {P : Program} {H : Hp} {β : Bt} {v : V} {u : Value} (h : RV P H β v u) : RV P H β (den v) u := by
  cases v <;> try exact h
  cases h
  exact .fs0 ..

theorem Con.den {P : Program} {E : Env} {f : FuncId} {xs : List V} {bo bo' ro : List Ob} {r : V} (h : Con P E f (xs.map Go.Vi.den) bo r bo' ro) : Con P E f xs bo r bo' ro := by
  intro H β w vs h1 h2 h3 h4
  refine h H β w vs h1 h2 h3 ⟨by rw [List.length_map]; exact h4.1, fun k y u hy hu => ?_⟩
  rw [List.getElem?_map] at hy
  cases hx : xs[k]? with
  | none => rw [hx] at hy; cases hy
  | some x =>
    rw [hx] at hy
    obtain rfl := Option.some.inj hy
    exact (h4.2 k x u hx hu).den

/-- What a function surely answers, whatever its spec lets us choose. -/
theorem SpecOk.con {P : Program} {E : Env} {f : FuncId} {pt : PT} (h : SpecOk P E f pt) {xs : List V} {r : V} (hp : pt (xs.map Go.Vi.den) [] fun r' _ _ => r' = r) : ∃ bo ro, Con P E f xs [] r bo ro := by
  obtain ⟨r', bo', ro, hc, rfl⟩ := h.2 _ _ _ hp
  exact ⟨bo', ro, hc.den⟩

theorem ls_of {w : View} {R : w.α → Prop} {g : List V → V} : ∀ {yss : List (List V)}, (∀ ys ∈ yss, ∃ a, g ys = w.enc a ∧ R a) → ∃ l : List w.α, yss.map g = w.ls l ∧ ∀ a ∈ l, R a
  | [], _ => ⟨[], rfl, fun a ha => by cases ha⟩
  | ys :: r, h => by
    obtain ⟨a, h1, h2⟩ := h ys (by simp)
    obtain ⟨l, h3, h4⟩ := ls_of (yss := r) fun z hz => h z (by simp [hz])
    exact ⟨a :: l, by rw [List.map_cons, h1, h3]; rfl, fun b hb => by
      rcases List.mem_cons.1 hb with rfl | hb
      · exact h2
      · exact h4 b hb⟩

theorem wf_i64 {z : Int} (h : (Lit.int .i64 z).wf = true) : -9223372036854775808 ≤ z ∧ z ≤ 9223372036854775807 := by
  simp only [Lit.wf, Bool.and_eq_true, decide_eq_true_eq] at h
  exact h

theorem wf_u8 {z : Int} (h : (Lit.int .u8 z).wf = true) : ∃ b : UInt8, z = b.toNat := by
  simp only [Lit.wf, Bool.and_eq_true, decide_eq_true_eq] at h
  have h1 : 0 ≤ z := h.1
  have h2 : z ≤ 255 := h.2
  refine ⟨UInt8.ofNat z.toNat, ?_⟩
  rw [UInt8.toNat_ofNat']
  omega

section
variable {P : Program} {ft : Nat} {t e : TypeId} {x : V}
theorem argInt {k : IntKind} (hu : P.underlying t = some (.int k)) (h : ArgT P (ft + 1) t x) : ∃ z, x = .int k z ∧ (Lit.int k z).wf = true := by
  obtain ⟨ys, rfl, h⟩ := h
  simp only [HasT, hu] at h
  obtain ⟨z, rfl, h⟩ := h
  exact ⟨z, by simp [isAggT, hu], h⟩
theorem argStr (hu : P.underlying t = some .string) (h : ArgT P (ft + 1) t x) : ∃ s : ByteArray, x = .str s ∧ s.size ≤ maxLen := by
  obtain ⟨ys, rfl, h⟩ := h
  simp only [HasT, hu] at h
  obtain ⟨z, rfl, h⟩ := h
  exact ⟨z, by simp [isAggT, hu], h⟩
theorem argBool (hu : P.underlying t = some .bool) (h : ArgT P (ft + 1) t x) : ∃ b, x = .bool b := by
  obtain ⟨ys, rfl, h⟩ := h
  simp only [HasT, hu] at h
  obtain ⟨z, rfl⟩ := h
  exact ⟨z, by simp [isAggT, hu]⟩
/-- A slice of the elements that a view tells. -/
theorem argSl {w : View} {R : w.α → Prop} (hu : P.underlying t = some (.slice e)) (he : ∀ y, ArgT P ft e y → ∃ a, y = w.enc a ∧ R a) (h : ArgT P (ft + 1) t x) : ∃ l : List w.α, den x = .fs (w.ls l) ∧ l.length ≤ maxLen ∧ ∀ a ∈ l, R a := by
  obtain ⟨ys, rfl, h⟩ := h
  simp only [HasT, hu] at h
  have hf : isAggT P t = false := by simp [isAggT, hu]
  rw [hf]
  rcases h with rfl | ⟨yss, rfl, hl, h⟩
  · exact ⟨[], rfl, Nat.zero_le _, fun a ha => by cases ha⟩
  · obtain ⟨l, h1, h2⟩ := ls_of (w := w) (R := R) (g := fun ys => if isAggT P e then .agg ys else ys.headD .junk) (yss := yss) fun ys hy => he _ ⟨ys, rfl, h ys hy⟩
    refine ⟨l, by show den (.fs _) = _; rw [h1]; rfl, ?_, h2⟩
    have := congrArg List.length h1
    rw [List.length_map] at this
    simp only [View.ls, List.length_map] at this
    omega
end
end Go.Vi

/- Readings of elements, in plain Lean. -/
set_option linter.unusedSimpArgs false
namespace Go.Vi
/-- A reading: x is the element, y is the value. -/
def bndT : List I2 := [⟨8000, 11000⟩, ⟨1800, 3300⟩, ⟨1800, 3300⟩, ⟨-1000, 1000⟩, ⟨-1000, 1000⟩, ⟨900, 1700⟩, ⟨2000, 3200⟩, ⟨2400, 3400⟩, ⟨2000, 3000⟩, ⟨4400, 6200⟩, ⟨2000, 2900⟩]
def dscF (c : Int) : I2 × Int := if 1 ≤ c ∧ c ≤ 11 then (bndT.getD (c - 1).toNat ⟨0, 0⟩, 0) else (⟨0, 0⟩, 4)
def chkF (r : I2) : Int := if (dscF r.x).2 = 0 then (if r.y < (dscF r.x).1.x ∨ r.y > (dscF r.x).1.y then 1 else 0) else 4
def ascF : List I2 → Bool
  | a :: b :: r => decide (a.x < b.x) && ascF (b :: r)
  | _ => true
def valF (l : List I2) : Int := if l.any (fun r => chkF r == 4) then 4 else if l.any (fun r => chkF r == 1) then 1 else if ascF l then 0 else 8
def findF (l : List I2) (c : Int) : Int × Bool := match l.find? (fun r => r.x == c) with | some r => (r.y, true) | none => (0, false)
def idxF (p : I2 → Bool) (l : List I2) : Int := match l.findIdx? p with | some i => (i : Int) | none => -1
theorem idx_at {p : I2 → Bool} {l : List I2} {i : Nat} {x : I2} (hi : l[i]? = some x) (hp : p x = true) (hno : ∀ (j : Nat) (y : I2), j < i → l[j]? = some y → p y = false) : idxF p l = i := by
  obtain ⟨hlt, he⟩ := List.getElem?_eq_some_iff.1 hi
  have : l.findIdx? p = some i := by
    rw [List.findIdx?_eq_some_iff_getElem]
    refine ⟨hlt, by rw [he]; exact hp, fun j hj => ?_⟩
    rw [hno j _ hj (List.getElem?_eq_getElem (by omega))]
    simp
  unfold idxF
  rw [this]
theorem idx_no {p : I2 → Bool} {l : List I2} (hno : ∀ (j : Nat) (y : I2), l[j]? = some y → p y = false) : idxF p l = -1 := by
  have : l.findIdx? p = none := by
    rw [List.findIdx?_eq_none_iff]
    intro x hx
    obtain ⟨j, hj⟩ := List.mem_iff_getElem?.1 hx
    exact hno j x hj
  unfold idxF
  rw [this]
theorem idx_any (p : I2 → Bool) (l : List I2) : decide (idxF p l ≥ 0) = l.any p := by
  unfold idxF
  cases h : l.findIdx? p with
  | none =>
    rw [List.findIdx?_eq_none_iff] at h
    symm
    rw [show (decide ((-1 : Int) ≥ 0)) = false from rfl, List.any_eq_false]
    intro x hx
    rw [h x hx]
    simp
  | some i =>
    obtain ⟨h1, h2, _⟩ := List.findIdx?_eq_some_iff_getElem.1 h
    rw [show decide (((i : Nat) : Int) ≥ 0) = true by simp]
    symm
    rw [List.any_eq_true]
    exact ⟨_, List.getElem_mem h1, h2⟩
theorem idx_find (l : List I2) (c : Int) : (idxF (fun r => r.x == c) l < 0 ∧ findF l c = (0, false)) ∨ (0 ≤ idxF (fun r => r.x == c) l ∧ idxF (fun r => r.x == c) l < l.length ∧ ∀ x, l[(idxF (fun r => r.x == c) l).toNat]? = some x → findF l c = (x.y, true)) := by
  cases h : l.findIdx? (fun r => r.x == c) with
  | none =>
    refine .inl ⟨by unfold idxF; rw [h]; show (-1 : Int) < 0; omega, ?_⟩
    rw [List.findIdx?_eq_none_iff] at h
    have : l.find? (fun r => r.x == c) = none := by
      rw [List.find?_eq_none]
      intro x hx
      rw [h x hx]
      simp
    unfold findF
    rw [this]
  | some i =>
    have e : idxF (fun r => r.x == c) l = i := by unfold idxF; rw [h]
    obtain ⟨h1, h2, h3⟩ := List.findIdx?_eq_some_iff_getElem.1 h
    rw [e]
    refine .inr ⟨by omega, by omega, fun x hx => ?_⟩
    rw [Int.toNat_natCast] at hx
    obtain ⟨_, hx⟩ := List.getElem?_eq_some_iff.1 hx
    have : l.find? (fun r => r.x == c) = some x := by
      rw [List.find?_eq_some_iff_getElem]
      refine ⟨by rw [← hx]; exact h2, i, h1, hx, fun j hj => ?_⟩
      have := h3 j hj
      simpa using this
    unfold findF
    rw [this]
end Go.Vi
namespace Go.Vi
theorem asc_iff : ∀ (l : List I2), ascF l = true ↔ ∀ (j : Nat) (a b : I2), l[j]? = some a → l[j + 1]? = some b → a.x < b.x
  | [] => by simp [ascF]
  | [c] => by simp [ascF]
  | c :: d :: r => by
    have ih := asc_iff (d :: r)
    simp only [ascF, Bool.and_eq_true, decide_eq_true_eq, ih]
    constructor
    · rintro ⟨h1, h2⟩ j a b ha hb
      cases j with
      | zero => simp at ha hb; subst ha; subst hb; exact h1
      | succ j => exact h2 j a b (by simpa using ha) (by simpa using hb)
    · intro h
      exact ⟨h 0 c d rfl rfl, fun j a b ha hb => h (j + 1) a b (by simpa using ha) (by simpa using hb)⟩

theorem dsc_2 {c : Int} (h : (dscF c).2 ≠ 0) : (dscF c).2 = 4 := by
  unfold dscF at h ⊢
  by_cases hc : 1 ≤ c ∧ c ≤ 11
  · rw [if_pos hc] at h; exact absurd rfl h
  · rw [if_neg hc]

theorem chk_cases (r : I2) : ((dscF r.x).2 ≠ 0 ∧ chkF r = 4) ∨ ((dscF r.x).2 = 0 ∧ ¬ ((dscF r.x).1.x ≤ r.y ∧ r.y ≤ (dscF r.x).1.y) ∧ chkF r = 1) ∨ ((dscF r.x).2 = 0 ∧ ((dscF r.x).1.x ≤ r.y ∧ r.y ≤ (dscF r.x).1.y) ∧ chkF r = 0) := by
  unfold chkF
  by_cases h : (dscF r.x).2 = 0
  · rw [if_pos h]
    by_cases h2 : r.y < (dscF r.x).1.x ∨ r.y > (dscF r.x).1.y
    · rw [if_pos h2]; exact .inr (.inl ⟨h, by omega, rfl⟩)
    · rw [if_neg h2]; exact .inr (.inr ⟨h, by omega, rfl⟩)
  · rw [if_neg h]; exact .inl ⟨h, rfl⟩

theorem val_4 {l : List I2} {i : Nat} {r : I2} (h : l[i]? = some r) (h4 : (dscF r.x).2 ≠ 0) : valF l = 4 := by
  unfold valF
  rw [if_pos]
  rw [List.any_eq_true]
  refine ⟨r, List.mem_of_getElem? h, ?_⟩
  rcases chk_cases r with h | h | h
  · simp [h.2]
  · exact absurd h.1 h4
  · exact absurd h.1 h4
theorem val_n4 {l : List I2} (h : ∀ (i : Nat) (r : I2), l[i]? = some r → (dscF r.x).2 = 0) : l.any (fun r => chkF r == 4) = false := by
  rw [List.any_eq_false]
  intro r hr
  obtain ⟨i, hi⟩ := List.mem_iff_getElem?.1 hr
  rcases chk_cases r with h1 | h1 | h1
  · exact absurd (h i r hi) h1.1
  · simp [h1.2.2]
  · simp [h1.2.2]
theorem val_1 {l : List I2} {i : Nat} {r : I2} (hk : ∀ (i : Nat) (r : I2), l[i]? = some r → (dscF r.x).2 = 0) (h : l[i]? = some r) (h1 : ¬ ((dscF r.x).1.x ≤ r.y ∧ r.y ≤ (dscF r.x).1.y)) : valF l = 1 := by
  unfold valF
  rw [val_n4 hk, if_neg (by simp), if_pos]
  rw [List.any_eq_true]
  refine ⟨r, List.mem_of_getElem? h, ?_⟩
  rcases chk_cases r with h | h | h
  · exact absurd (hk i r (by assumption)) h.1
  · simp [h.2.2]
  · exact absurd h.2.1 h1
theorem val_n1 {l : List I2} (hk : ∀ (i : Nat) (r : I2), l[i]? = some r → (dscF r.x).2 = 0) (h : ∀ (i : Nat) (r : I2), l[i]? = some r → ((dscF r.x).1.x ≤ r.y ∧ r.y ≤ (dscF r.x).1.y)) : valF l = if ascF l then 0 else 8 := by
  unfold valF
  rw [val_n4 hk, if_neg (by simp), if_neg]
  intro hh
  rw [List.any_eq_true] at hh
  obtain ⟨r, hr, hr2⟩ := hh
  obtain ⟨i, hi⟩ := List.mem_iff_getElem?.1 hr
  rcases chk_cases r with h1 | h1 | h1
  · exact h1.1 (hk i r hi)
  · exact h1.2.1 (h i r hi)
  · rw [h1.2.2] at hr2; cases hr2
end Go.Vi

/- Residuals of layers, in plain Lean. -/
namespace Go.Vi
def okV (l : List I2) (c : Int) : Bool := (findF l c).2 && (decide (-100000 ≤ (findF l c).1) && decide ((findF l c).1 ≤ 100000))
def resF (h t a c f : Int) (l : List I2) : Int × Bool := if okV l h && (okV l t && (okV l a && okV l c)) then (20000 * ((findF l a).1 - (findF l h).1) - f * ((findF l t).1 + (findF l c).1), true) else (0, false)
def loF (l : List I2) : Int × Bool := resF 6 7 8 9 5683 l
def upF (l : List I2) : Int × Bool := resF 8 9 10 11 9848 l
def szF (n : Int) : Int := if n < 0 then -n else n
def bothF (a b m : Int) : List Int :=
  if szF (a + b) ≤ 20000 * m ∧ ¬ szF (9848 * a - 5683 * b) ≤ 9848 * 20000 * m then [8]
  else if szF (9848 * a - 5683 * b) ≤ 9848 * 20000 * m ∧ ¬ szF (a + b) ≤ 20000 * m then [9] else [6, 7, 8, 9, 10, 11]
def chE (l : List I2) (m : Int) : Int := if m < 0 ∨ m > 1000 then 1 else valF l
def chL (l : List I2) (m : Int) : List Int :=
  if chE l m ≠ 0 then [] else
  if szF (loF l).1 > 20000 * m ∧ szF (upF l).1 > 20000 * m then bothF (loF l).1 (upF l).1 m
  else if szF (loF l).1 > 20000 * m then (if (upF l).2 then [6, 7] else [6, 7, 8, 9])
  else if szF (upF l).1 > 20000 * m then (if (loF l).2 then [10, 11] else [8, 9, 10, 11])
  else []
theorem okV_n1 {l : List I2} {c : Int} (h : (findF l c).2 = false) : okV l c = false := by unfold okV; rw [h]; rfl
theorem okV_n2 {l : List I2} {c : Int} (h : (findF l c).1 < -100000) : okV l c = false := by
  unfold okV; rw [decide_eq_false (show ¬ (-100000 ≤ (findF l c).1) by omega)]; simp
theorem okV_n3 {l : List I2} {c : Int} (h : (findF l c).1 > 100000) : okV l c = false := by
  unfold okV; rw [decide_eq_false (show ¬ ((findF l c).1 ≤ 100000) by omega)]; simp
theorem okV_y {l : List I2} {c : Int} (h : (findF l c).2 = true) (h1 : ¬ (findF l c).1 < -100000) (h2 : ¬ (findF l c).1 > 100000) : okV l c = true := by
  unfold okV; rw [h, decide_eq_true (show (-100000 ≤ (findF l c).1) by omega), decide_eq_true (show ((findF l c).1 ≤ 100000) by omega)]; rfl
theorem okV_in {l : List I2} {c : Int} (h : okV l c = true) : -100000 ≤ (findF l c).1 ∧ (findF l c).1 ≤ 100000 := by
  unfold okV at h; simpa using (by simpa using h : _ ∧ _ ∧ _).2
theorem resF_in {h t a c f : Int} {l : List I2} (hf : f = 5683 ∨ f = 9848) : -10000000000 ≤ (resF h t a c f l).1 ∧ (resF h t a c f l).1 ≤ 10000000000 := by
  unfold resF
  split
  · rename_i hh
    simp only [Bool.and_eq_true] at hh
    have h1 := okV_in hh.1
    have h2 := okV_in hh.2.1
    have h3 := okV_in hh.2.2.1
    have h4 := okV_in hh.2.2.2
    dsimp only
    rcases hf with rfl | rfl <;> omega
  · dsimp only; omega
theorem szF_eq (n : Int) : (if 0 - n > n then 0 - n else n) = szF n := by
  unfold szF
  split <;> split <;> omega
theorem szF_in {n m : Int} (h : -m ≤ n ∧ n ≤ m) : 0 ≤ szF n ∧ szF n ≤ m := by
  unfold szF
  split <;> omega
end Go.Vi

/- Six readings of three levels, in plain Lean. -/
namespace Go.Vi
structure S6 where
  a : Int
  b : Int
  c : Int
  d : Int
  e : Int
  f : Int
def six6 (a b c d e f : Int) : List I2 := [⟨6, a⟩, ⟨7, b⟩, ⟨8, c⟩, ⟨9, d⟩, ⟨10, e⟩, ⟨11, f⟩]
structure In6 (a b c d e f : Int) : Prop where
  a1 : 900 ≤ a
  a2 : a ≤ 1700
  b1 : 2000 ≤ b
  b2 : b ≤ 3200
  c1 : 2400 ≤ c
  c2 : c ≤ 3400
  d1 : 2000 ≤ d
  d2 : d ≤ 3000
  e1 : 4400 ≤ e
  e2 : e ≤ 6200
  f1 : 2000 ≤ f
  f2 : f ≤ 2900
def lo6 (a b c d : Int) : Int := 20000 * (c - a) - 5683 * (b + d)
def up6 (c d e f : Int) : Int := 20000 * (e - c) - 9848 * (d + f)
theorem chk6 (c x lo hi : Int) (hd : dscF c = (⟨lo, hi⟩, 0)) : chkF ⟨c, x⟩ = if lo ≤ x ∧ x ≤ hi then 0 else 1 := by
  unfold chkF
  simp only [hd, if_true]
  by_cases h : lo ≤ x ∧ x ≤ hi
  · rw [if_pos h, if_neg (by omega)]
  · rw [if_neg h, if_pos (by omega)]
theorem one0 (p : Prop) [Decidable p] : ((if p then (0 : Int) else 1) == 4) = false := by split <;> rfl
theorem one1 (p : Prop) [Decidable p] : ((if p then (0 : Int) else 1) == 1) = !decide p := by
  by_cases h : p
  · simp [h]
  · simp [h]
theorem val6 (a b c d e f : Int) : valF (six6 a b c d e f) = 0 ↔ In6 a b c d e f := by
  have h1 := chk6 6 a 900 1700 (by decide)
  have h2 := chk6 7 b 2000 3200 (by decide)
  have h3 := chk6 8 c 2400 3400 (by decide)
  have h4 := chk6 9 d 2000 3000 (by decide)
  have h5 := chk6 10 e 4400 6200 (by decide)
  have h6 := chk6 11 f 2000 2900 (by decide)
  have hs : ascF (six6 a b c d e f) = true := by simp [six6, ascF]
  unfold valF
  rw [hs]
  simp only [six6, List.any_cons, List.any_nil, h1, h2, h3, h4, h5, h6, one0, one1, Bool.or_false, Bool.false_eq_true, if_false, if_true, Bool.or_eq_true, Bool.not_eq_true', decide_eq_false_iff_not]
  constructor
  · intro h
    split at h
    · cases h
    · rename_i hn
      constructor <;> omega
  · rintro ⟨_, _, _, _, _, _, _, _, _, _, _, _⟩
    rw [if_neg (by omega)]
theorem okV6 (l : List I2) (k x : Int) (h : findF l k = (x, true)) (h1 : -100000 ≤ x) (h2 : x ≤ 100000) : okV l k = true := by
  unfold okV; rw [h]; simp [h1, h2]
theorem findF6 (a b c d e f : Int) : findF (six6 a b c d e f) 6 = (a, true) ∧ findF (six6 a b c d e f) 7 = (b, true) ∧ findF (six6 a b c d e f) 8 = (c, true) ∧ findF (six6 a b c d e f) 9 = (d, true) ∧ findF (six6 a b c d e f) 10 = (e, true) ∧ findF (six6 a b c d e f) 11 = (f, true) :=
  ⟨rfl, rfl, rfl, rfl, rfl, rfl⟩
structure Big6 (a b c d e f : Int) : Prop where
  a : -100000 ≤ a ∧ a ≤ 100000
  b : -100000 ≤ b ∧ b ≤ 100000
  c : -100000 ≤ c ∧ c ≤ 100000
  d : -100000 ≤ d ∧ d ≤ 100000
  e : -100000 ≤ e ∧ e ≤ 100000
  f : -100000 ≤ f ∧ f ≤ 100000
theorem In6.big {a b c d e f : Int} (h : In6 a b c d e f) : Big6 a b c d e f := by
  obtain ⟨_, _, _, _, _, _, _, _, _, _, _, _⟩ := h
  constructor <;> omega
theorem lo_six {a b c d e f : Int} (h : Big6 a b c d e f) : loF (six6 a b c d e f) = (lo6 a b c d, true) := by
  obtain ⟨h6, h7, h8, h9, h10, h11⟩ := findF6 a b c d e f
  unfold loF resF
  rw [okV6 _ _ _ h6 h.a.1 h.a.2, okV6 _ _ _ h7 h.b.1 h.b.2, okV6 _ _ _ h8 h.c.1 h.c.2, okV6 _ _ _ h9 h.d.1 h.d.2, h6, h7, h8, h9]
  rfl
theorem up_six {a b c d e f : Int} (h : Big6 a b c d e f) : upF (six6 a b c d e f) = (up6 c d e f, true) := by
  obtain ⟨h6, h7, h8, h9, h10, h11⟩ := findF6 a b c d e f
  unfold upF resF
  rw [okV6 _ _ _ h8 h.c.1 h.c.2, okV6 _ _ _ h9 h.d.1 h.d.2, okV6 _ _ _ h10 h.e.1 h.e.2, okV6 _ _ _ h11 h.f.1 h.f.2, h8, h9, h10, h11]
  rfl
/-- The lower four alone. -/
def four4 (a b c d : Int) : List I2 := [⟨6, a⟩, ⟨7, b⟩, ⟨8, c⟩, ⟨9, d⟩]
theorem lo_four {a b c d e f : Int} (h : Big6 a b c d e f) : loF (four4 a b c d) = (lo6 a b c d, true) := by
  have h6 : findF (four4 a b c d) 6 = (a, true) := rfl
  have h7 : findF (four4 a b c d) 7 = (b, true) := rfl
  have h8 : findF (four4 a b c d) 8 = (c, true) := rfl
  have h9 : findF (four4 a b c d) 9 = (d, true) := rfl
  unfold loF resF
  rw [okV6 _ _ _ h6 h.a.1 h.a.2, okV6 _ _ _ h7 h.b.1 h.b.2, okV6 _ _ _ h8 h.c.1 h.c.2, okV6 _ _ _ h9 h.d.1 h.d.2, h6, h7, h8, h9]
  rfl
theorem up_four (a b c d : Int) : upF (four4 a b c d) = (0, false) := by
  have h10 : findF (four4 a b c d) 10 = (0, false) := rfl
  have h : okV (four4 a b c d) 10 = false := okV_n1 (by rw [h10])
  unfold upF resF
  rw [h]
  simp
theorem che6 {a b c d e f m : Int} (h : In6 a b c d e f) : chE (six6 a b c d e f) m = if m < 0 ∨ m > 1000 then 1 else 0 := by
  unfold chE
  rw [(val6 a b c d e f).2 h]
def ch6 (u v m : Int) : List Int :=
  if szF u > 20000 * m ∧ szF v > 20000 * m then bothF u v m
  else if szF u > 20000 * m then [6, 7]
  else if szF v > 20000 * m then [10, 11]
  else []
theorem chl6 {a b c d e f m : Int} (h : In6 a b c d e f) (h0 : 0 ≤ m) (h1 : m ≤ 1000) : chL (six6 a b c d e f) m = ch6 (lo6 a b c d) (up6 c d e f) m := by
  unfold chL
  rw [che6 h, if_neg (by omega), lo_six h.big, up_six h.big]
  rfl
theorem szF_le {n m : Int} : szF n ≤ m ↔ -m ≤ n ∧ n ≤ m := by
  unfold szF
  split <;> omega
theorem szF_gt {n m : Int} : szF n > m ↔ n < -m ∨ m < n := by
  unfold szF
  split <;> omega
end Go.Vi
namespace Go.Vi
def S6.l (s : S6) : List I2 := six6 s.a s.b s.c s.d s.e s.f
structure Near6 (k : Int) (s : S6) : Prop where
  a : -10000 + 100 * k ≤ s.a ∧ s.a ≤ 10000 - 100 * k
  b : -10000 + 100 * k ≤ s.b ∧ s.b ≤ 10000 - 100 * k
  c : -10000 + 100 * k ≤ s.c ∧ s.c ≤ 10000 - 100 * k
  d : -10000 + 100 * k ≤ s.d ∧ s.d ≤ 10000 - 100 * k
  e : -10000 + 100 * k ≤ s.e ∧ s.e ≤ 10000 - 100 * k
  f : -10000 + 100 * k ≤ s.f ∧ s.f ≤ 10000 - 100 * k
theorem near_get {s : S6} {k : Int} (h : Near6 k s) (hk : 0 ≤ k) {i : Nat} {x : I2} (hx : s.l[i]? = some x) : -10000 ≤ x.y ∧ x.y ≤ 10000 := by
  obtain ⟨ha, hb, hc, hd, he, hf⟩ := h
  rcases i with _ | _ | _ | _ | _ | _ | i
  all_goals first
    | (obtain rfl := Option.some.inj hx; dsimp only; omega)
    | (cases hx)
theorem near_set {s : S6} {k : Int} (h : Near6 k s) {i : Nat} {x : I2} {d : Int} (hx : s.l[i]? = some x) (h1 : -100 ≤ d) (h2 : d ≤ 100) : ∃ s' : S6, s.l.set i ⟨x.x, x.y + d⟩ = s'.l ∧ Near6 (k - 1) s' := by
  obtain ⟨ha, hb, hc, hd, he, hf⟩ := h
  rcases i with _ | _ | _ | _ | _ | _ | i
  · obtain rfl := Option.some.inj hx
    exact ⟨⟨s.a + d, s.b, s.c, s.d, s.e, s.f⟩, rfl, by constructor <;> dsimp only <;> omega⟩
  · obtain rfl := Option.some.inj hx
    exact ⟨⟨s.a, s.b + d, s.c, s.d, s.e, s.f⟩, rfl, by constructor <;> dsimp only <;> omega⟩
  · obtain rfl := Option.some.inj hx
    exact ⟨⟨s.a, s.b, s.c + d, s.d, s.e, s.f⟩, rfl, by constructor <;> dsimp only <;> omega⟩
  · obtain rfl := Option.some.inj hx
    exact ⟨⟨s.a, s.b, s.c, s.d + d, s.e, s.f⟩, rfl, by constructor <;> dsimp only <;> omega⟩
  · obtain rfl := Option.some.inj hx
    exact ⟨⟨s.a, s.b, s.c, s.d, s.e + d, s.f⟩, rfl, by constructor <;> dsimp only <;> omega⟩
  · obtain rfl := Option.some.inj hx
    exact ⟨⟨s.a, s.b, s.c, s.d, s.e, s.f + d⟩, rfl, by constructor <;> dsimp only <;> omega⟩
  · cases hx
def h7F (h8 t8 t7 : Int) : Int := h8 + (5683 * (t8 + t7) + 10000) / 20000
def h5F (h7 t7 t5 : Int) : Int := h7 + (9848 * (t7 + t5) + 10000) / 20000
theorem fit6 {t8 t7 t5 h8 : Int} (a1 : 2500 ≤ t8) (a2 : t8 ≤ 3000) (b1 : 2450 ≤ t7) (b2 : t7 ≤ 2850) (c1 : 2200 ≤ t5) (c2 : t5 ≤ 2600) (d1 : 1200 ≤ h8) (d2 : h8 ≤ 1500) :
    In6 h8 t8 (h7F h8 t8 t7) t7 (h5F (h7F h8 t8 t7) t7 t5) t5 ∧ (-10000 ≤ lo6 h8 t8 (h7F h8 t8 t7) t7 ∧ lo6 h8 t8 (h7F h8 t8 t7) t7 ≤ 10000) ∧
    (-10000 ≤ up6 (h7F h8 t8 t7) t7 (h5F (h7F h8 t8 t7) t7 t5) t5 ∧ up6 (h7F h8 t8 t7) t7 (h5F (h7F h8 t8 t7) t7 t5) t5 ≤ 10000) := by
  have e7 : h7F h8 t8 t7 = h8 + (5683 * (t8 + t7) + 10000) / 20000 := rfl
  generalize h7F h8 t8 t7 = h7 at *
  have e5 : h5F h7 t7 t5 = h7 + (9848 * (t7 + t5) + 10000) / 20000 := rfl
  generalize h5F h7 t7 t5 = h5 at *
  unfold lo6 up6
  refine ⟨by constructor <;> omega, by omega, by omega⟩
theorem fit6_ch {u v : Int} (h1 : -10000 ≤ u ∧ u ≤ 10000) (h2 : -10000 ≤ v ∧ v ≤ 10000) : ch6 u v 10 = [] := by
  unfold ch6
  rw [if_neg (by rw [szF_gt, szF_gt]; omega), if_neg (by rw [szF_gt]; omega), if_neg (by rw [szF_gt]; omega)]
theorem ch6_8 {u v d : Int} (h1 : -10000 ≤ u ∧ u ≤ 10000) (h2 : -10000 ≤ v ∧ v ≤ 10000) (hd : 40 ≤ d ∨ d ≤ -40) : ch6 (u + 20000 * d) (v - 20000 * d) 10 = [8] := by
  unfold ch6
  rw [if_pos (by rw [szF_gt, szF_gt]; omega)]
  unfold bothF
  rw [if_pos]
  rw [szF_le, szF_le]
  omega
theorem ch6_9 {u v d : Int} (h1 : -10000 ≤ u ∧ u ≤ 10000) (h2 : -10000 ≤ v ∧ v ≤ 10000) (hd : 100 ≤ d ∨ d ≤ -100) : ch6 (u - 5683 * d) (v - 9848 * d) 10 = [9] := by
  unfold ch6
  rw [if_pos (by rw [szF_gt, szF_gt]; omega)]
  unfold bothF
  rw [if_neg, if_pos]
  · rw [szF_le, szF_le]
    omega
  · rw [szF_le, szF_le]
    omega
/-- The law 'Finds': the height at 700 hPa is wrong by d. -/
theorem finds8 {t8 t7 t5 h8 d : Int} (a1 : 2500 ≤ t8) (a2 : t8 ≤ 3000) (b1 : 2450 ≤ t7) (b2 : t7 ≤ 2850) (c1 : 2200 ≤ t5) (c2 : t5 ≤ 2600) (d1 : 1200 ≤ h8) (d2 : h8 ≤ 1500) (hd : 40 ≤ d ∨ d ≤ -40)
    (hv : valF (six6 h8 t8 (h7F h8 t8 t7 + d) t7 (h5F (h7F h8 t8 t7) t7 t5) t5) = 0) :
    chE (six6 h8 t8 (h7F h8 t8 t7 + d) t7 (h5F (h7F h8 t8 t7) t7 t5) t5) 10 = 0 ∧ chL (six6 h8 t8 (h7F h8 t8 t7 + d) t7 (h5F (h7F h8 t8 t7) t7 t5) t5) 10 = [8] := by
  obtain ⟨_, h1, h2⟩ := fit6 a1 a2 b1 b2 c1 c2 d1 d2
  have hi := (val6 _ _ _ _ _ _).1 hv
  refine ⟨by rw [che6 hi, if_neg (by omega)], ?_⟩
  rw [chl6 hi (by omega) (by omega)]
  rw [← ch6_8 h1 h2 hd]
  unfold lo6 up6
  congr 1 <;> omega
theorem finds9 {t8 t7 t5 h8 d : Int} (a1 : 2500 ≤ t8) (a2 : t8 ≤ 3000) (b1 : 2450 ≤ t7) (b2 : t7 ≤ 2850) (c1 : 2200 ≤ t5) (c2 : t5 ≤ 2600) (d1 : 1200 ≤ h8) (d2 : h8 ≤ 1500) (hd : 100 ≤ d ∨ d ≤ -100)
    (hv : valF (six6 h8 t8 (h7F h8 t8 t7) (t7 + d) (h5F (h7F h8 t8 t7) t7 t5) t5) = 0) :
    chE (six6 h8 t8 (h7F h8 t8 t7) (t7 + d) (h5F (h7F h8 t8 t7) t7 t5) t5) 10 = 0 ∧ chL (six6 h8 t8 (h7F h8 t8 t7) (t7 + d) (h5F (h7F h8 t8 t7) t7 t5) t5) 10 = [9] := by
  obtain ⟨_, h1, h2⟩ := fit6 a1 a2 b1 b2 c1 c2 d1 d2
  have hi := (val6 _ _ _ _ _ _).1 hv
  refine ⟨by rw [che6 hi, if_neg (by omega)], ?_⟩
  rw [chl6 hi (by omega) (by omega)]
  rw [← ch6_9 h1 h2 hd]
  unfold lo6 up6
  congr 1 <;> omega
/-- The law 'Ends': a value at 850 hPa is wrong by d. -/
theorem ends_low {t8 t7 t5 h8 d : Int} {i : Nat} {x : I2} (a1 : 2500 ≤ t8) (a2 : t8 ≤ 3000) (b1 : 2450 ≤ t7) (b2 : t7 ≤ 2850) (c1 : 2200 ≤ t5) (c2 : t5 ≤ 2600) (d1 : 1200 ≤ h8) (d2 : h8 ≤ 1500) (g1 : 200 ≤ d) (g2 : d ≤ 280) (hi : i < 2)
    (hx : (six6 h8 t8 (h7F h8 t8 t7) t7 (h5F (h7F h8 t8 t7) t7 t5) t5)[i]? = some x) :
    let y := (six6 h8 t8 (h7F h8 t8 t7) t7 (h5F (h7F h8 t8 t7) t7 t5) t5).set i ⟨x.x, x.y + d⟩
    y.length = 6 ∧ (valF y = 0 → chE y 20 = 0 ∧ chL y 20 = [6, 7] ∧ (upF y).1 = (upF (six6 h8 t8 (h7F h8 t8 t7) t7 (h5F (h7F h8 t8 t7) t7 t5) t5)).1) := by
  obtain ⟨h0, h1, h2⟩ := fit6 a1 a2 b1 b2 c1 c2 d1 d2
  refine ⟨by rw [List.length_set]; rfl, ?_⟩
  rcases i with _ | _ | i
  · obtain rfl := Option.some.inj hx
    show valF (six6 (h8 + d) t8 (h7F h8 t8 t7) t7 (h5F (h7F h8 t8 t7) t7 t5) t5) = 0 → chE (six6 (h8 + d) t8 (h7F h8 t8 t7) t7 (h5F (h7F h8 t8 t7) t7 t5) t5) 20 = 0 ∧ chL (six6 (h8 + d) t8 (h7F h8 t8 t7) t7 (h5F (h7F h8 t8 t7) t7 t5) t5) 20 = [6, 7] ∧ _ = _
    intro hv
    have hj := (val6 _ _ _ _ _ _).1 hv
    refine ⟨by rw [che6 hj, if_neg (by omega)], ?_, ?_⟩
    · rw [chl6 hj (by omega) (by omega)]
      unfold ch6
      have e : lo6 (h8 + d) t8 (h7F h8 t8 t7) t7 = lo6 h8 t8 (h7F h8 t8 t7) t7 - 20000 * d := by unfold lo6; omega
      rw [e, if_neg (by rw [szF_gt, szF_gt]; omega), if_pos (by rw [szF_gt]; omega)]
    · rw [up_six h0.big]
      show (upF (six6 (h8 + d) t8 (h7F h8 t8 t7) t7 (h5F (h7F h8 t8 t7) t7 t5) t5)).1 = _
      rw [up_six hj.big]
  · obtain rfl := Option.some.inj hx
    show valF (six6 h8 (t8 + d) (h7F h8 t8 t7) t7 (h5F (h7F h8 t8 t7) t7 t5) t5) = 0 → chE (six6 h8 (t8 + d) (h7F h8 t8 t7) t7 (h5F (h7F h8 t8 t7) t7 t5) t5) 20 = 0 ∧ chL (six6 h8 (t8 + d) (h7F h8 t8 t7) t7 (h5F (h7F h8 t8 t7) t7 t5) t5) 20 = [6, 7] ∧ _ = _
    intro hv
    have hj := (val6 _ _ _ _ _ _).1 hv
    refine ⟨by rw [che6 hj, if_neg (by omega)], ?_, ?_⟩
    · rw [chl6 hj (by omega) (by omega)]
      unfold ch6
      have e : lo6 h8 (t8 + d) (h7F h8 t8 t7) t7 = lo6 h8 t8 (h7F h8 t8 t7) t7 - 5683 * d := by unfold lo6; omega
      rw [e, if_neg (by rw [szF_gt, szF_gt]; omega), if_pos (by rw [szF_gt]; omega)]
    · rw [up_six h0.big]
      show (upF (six6 h8 (t8 + d) (h7F h8 t8 t7) t7 (h5F (h7F h8 t8 t7) t7 t5) t5)).1 = _
      rw [up_six hj.big]
  · omega
theorem ends_top {t8 t7 t5 h8 d : Int} {i : Nat} {x : I2} (a1 : 2500 ≤ t8) (a2 : t8 ≤ 3000) (b1 : 2450 ≤ t7) (b2 : t7 ≤ 2850) (c1 : 2200 ≤ t5) (c2 : t5 ≤ 2600) (d1 : 1200 ≤ h8) (d2 : h8 ≤ 1500) (g1 : 200 ≤ d) (g2 : d ≤ 280) (hi : 4 ≤ i) (hi' : i < 6)
    (hx : (six6 h8 t8 (h7F h8 t8 t7) t7 (h5F (h7F h8 t8 t7) t7 t5) t5)[i]? = some x) :
    let y := (six6 h8 t8 (h7F h8 t8 t7) t7 (h5F (h7F h8 t8 t7) t7 t5) t5).set i ⟨x.x, x.y + d⟩
    y.length = 6 ∧ (valF y = 0 → chE y 20 = 0 ∧ chL y 20 = [10, 11] ∧ (loF y).1 = (loF (six6 h8 t8 (h7F h8 t8 t7) t7 (h5F (h7F h8 t8 t7) t7 t5) t5)).1) := by
  obtain ⟨h0, h1, h2⟩ := fit6 a1 a2 b1 b2 c1 c2 d1 d2
  refine ⟨by rw [List.length_set]; rfl, ?_⟩
  have hi2 : i = 4 ∨ i = 5 := by omega
  rcases hi2 with rfl | rfl
  · obtain rfl := Option.some.inj hx
    show valF (six6 h8 t8 (h7F h8 t8 t7) t7 (h5F (h7F h8 t8 t7) t7 t5 + d) t5) = 0 → chE (six6 h8 t8 (h7F h8 t8 t7) t7 (h5F (h7F h8 t8 t7) t7 t5 + d) t5) 20 = 0 ∧ chL (six6 h8 t8 (h7F h8 t8 t7) t7 (h5F (h7F h8 t8 t7) t7 t5 + d) t5) 20 = [10, 11] ∧ _ = _
    intro hv
    have hj := (val6 _ _ _ _ _ _).1 hv
    refine ⟨by rw [che6 hj, if_neg (by omega)], ?_, ?_⟩
    · rw [chl6 hj (by omega) (by omega)]
      unfold ch6
      have e : up6 (h7F h8 t8 t7) t7 (h5F (h7F h8 t8 t7) t7 t5 + d) t5 = up6 (h7F h8 t8 t7) t7 (h5F (h7F h8 t8 t7) t7 t5) t5 + 20000 * d := by unfold up6; omega
      rw [e, if_neg (by rw [szF_gt, szF_gt]; omega), if_neg (by rw [szF_gt]; omega), if_pos (by rw [szF_gt]; omega)]
    · rw [lo_six h0.big]
      show (loF (six6 h8 t8 (h7F h8 t8 t7) t7 (h5F (h7F h8 t8 t7) t7 t5 + d) t5)).1 = _
      rw [lo_six hj.big]
  · obtain rfl := Option.some.inj hx
    show valF (six6 h8 t8 (h7F h8 t8 t7) t7 (h5F (h7F h8 t8 t7) t7 t5) (t5 + d)) = 0 → chE (six6 h8 t8 (h7F h8 t8 t7) t7 (h5F (h7F h8 t8 t7) t7 t5) (t5 + d)) 20 = 0 ∧ chL (six6 h8 t8 (h7F h8 t8 t7) t7 (h5F (h7F h8 t8 t7) t7 t5) (t5 + d)) 20 = [10, 11] ∧ _ = _
    intro hv
    have hj := (val6 _ _ _ _ _ _).1 hv
    refine ⟨by rw [che6 hj, if_neg (by omega)], ?_, ?_⟩
    · rw [chl6 hj (by omega) (by omega)]
      unfold ch6
      have e : up6 (h7F h8 t8 t7) t7 (h5F (h7F h8 t8 t7) t7 t5) (t5 + d) = up6 (h7F h8 t8 t7) t7 (h5F (h7F h8 t8 t7) t7 t5) t5 - 9848 * d := by unfold up6; omega
      rw [e, if_neg (by rw [szF_gt, szF_gt]; omega), if_neg (by rw [szF_gt]; omega), if_pos (by rw [szF_gt]; omega)]
    · rw [lo_six h0.big]
      show (loF (six6 h8 t8 (h7F h8 t8 t7) t7 (h5F (h7F h8 t8 t7) t7 t5) (t5 + d))).1 = _
      rw [lo_six hj.big]
/-- The law 'Wider'. -/
theorem ch6_wider {u v t n : Int} (hn : 0 ≤ n) (h : ch6 u v t = []) : ch6 u v (t + n) = [] := by
  unfold ch6 at h ⊢
  simp only [szF_gt] at h ⊢
  split at h
  · unfold bothF at h
    split at h
    · cases h
    · split at h <;> cases h
  · split at h
    · cases h
    · split at h
      · cases h
      · rw [if_neg (by omega), if_neg (by omega), if_neg (by omega)]
theorem ch6_most {u v m : Int} (h : u ≤ 20000 * m) (h1 : -u ≤ 20000 * m) (h2 : v ≤ 20000 * m) (h3 : -v ≤ 20000 * m) : ch6 u v m = [] := by
  unfold ch6
  simp only [szF_gt]
  rw [if_neg (by omega), if_neg (by omega), if_neg (by omega)]
end Go.Vi
namespace Go.Vi
theorem fdiv2 {x : Int} (h : 0 ≤ x) (h2 : x ≤ 1000000000000) : IntKind.i64.wrap (x.tdiv 20000) = x / 20000 := by
  rw [Int.tdiv_eq_ediv_of_nonneg h]
  exact wrap64 (by omega) (by omega)
end Go.Vi
namespace Go.Vi
def mx (x y : Int) : Int := if y > x then y else x
theorem mx4 (u v : Int) (hu : -10000000000 ≤ u ∧ u ≤ 10000000000) (hv : -10000000000 ≤ v ∧ v ≤ 10000000000) : ∃ M, mx (mx (mx u (0 - u)) v) (0 - v) = M ∧ u ≤ M ∧ -u ≤ M ∧ v ≤ M ∧ -v ≤ M ∧ M ≤ 10000000000 := by
  refine ⟨_, rfl, ?_⟩
  unfold mx
  repeat' split
  all_goals omega
theorem S6.che {s : S6} {m : Int} (hv : valF s.l = 0) (h0 : 0 ≤ m) (h1 : m ≤ 1000) : chE s.l m = 0 := by
  unfold S6.l at hv ⊢
  rw [che6 ((val6 _ _ _ _ _ _).1 hv), if_neg (by omega)]
theorem S6.chl {s : S6} {m : Int} (hv : valF s.l = 0) (h0 : 0 ≤ m) (h1 : m ≤ 1000) : chL s.l m = ch6 (loF s.l).1 (upF s.l).1 m := by
  unfold S6.l at hv ⊢
  have hi := (val6 _ _ _ _ _ _).1 hv
  rw [chl6 hi h0 h1, lo_six hi.big, up_six hi.big]
theorem Near6.big {s : S6} {k : Int} (h : Near6 k s) (hk : 0 ≤ k) : Big6 s.a s.b s.c s.d s.e s.f := by
  obtain ⟨ha, hb, hc, hd, he, hf⟩ := h
  constructor <;> omega
theorem near_fit {t8 t7 t5 h8 : Int} (a1 : 2500 ≤ t8) (a2 : t8 ≤ 3000) (b1 : 2450 ≤ t7) (b2 : t7 ≤ 2850) (c1 : 2200 ≤ t5) (c2 : t5 ≤ 2600) (d1 : 1200 ≤ h8) (d2 : h8 ≤ 1500) {n : Int} (hn : n ≤ 2) :
    Near6 n ⟨h8, t8, h7F h8 t8 t7, t7, h5F (h7F h8 t8 t7) t7 t5, t5⟩ := by
  obtain ⟨⟨_, _, _, _, _, _, _, _, _, _, _, _⟩, _, _⟩ := fit6 a1 a2 b1 b2 c1 c2 d1 d2
  constructor <;> dsimp only <;> omega
/-- The law 'Shifted': both layers of readings that are shifted. -/
def S6.up (s : S6) (d : Int) : S6 := ⟨s.a + d, s.b, s.c + d, s.d, s.e + d, s.f⟩
theorem Near6.upB {s : S6} {k d : Int} (h : Near6 k s) (hk : 0 ≤ k) (h1 : -200 ≤ d) (h2 : d ≤ 200) : Big6 (s.a + d) s.b (s.c + d) s.d (s.e + d) s.f := by
  obtain ⟨ha, hb, hc, hd, he, hf⟩ := h
  constructor <;> omega
theorem S6.los {s : S6} (h : Big6 s.a s.b s.c s.d s.e s.f) : loF s.l = (lo6 s.a s.b s.c s.d, true) := lo_six h
theorem S6.ups {s : S6} (h : Big6 s.a s.b s.c s.d s.e s.f) : upF s.l = (up6 s.c s.d s.e s.f, true) := up_six h
theorem shift_z {s : S6} {k d : Int} {i : Nat} {x : I2} (h : Near6 k s) (hk : 0 ≤ k) (h1 : -200 ≤ d) (h2 : d ≤ 200) (hi : i < 2) (hx : s.l[i]? = some x) :
    (s.l.set i ⟨x.x, x.y + d⟩).length = 6 ∧ upF (s.l.set i ⟨x.x, x.y + d⟩) = (up6 s.c s.d s.e s.f, true) := by
  refine ⟨by rw [List.length_set]; rfl, ?_⟩
  obtain ⟨ha, hb, hc, hd, he, hf⟩ := h
  rcases i with _ | _ | i
  · obtain rfl := Option.some.inj hx
    exact up_six (a := s.a + d) (b := s.b) (by constructor <;> omega)
  · obtain rfl := Option.some.inj hx
    exact up_six (a := s.a) (b := s.b + d) (by constructor <;> omega)
  · omega
end Go.Vi
