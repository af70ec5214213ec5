/- Vi, part 11: the call of a function, in the caller's terms. -/
import Derived.Test.YtbiifkfehfapkaaDoorVi10
set_option linter.unusedVariables false
set_option linter.unusedSimpArgs false
namespace Go.Vi
section
variable {P : Program} {H : Hp} {β : Bt} {ob : Id → Option Ob} {w : World} {t g : Nat}

/-- The callee's frozen memory: what is handed on by value belongs to it. -/
noncomputable def hcall (H : Hp) (β : Bt) (w : World) (s : List Id) : Hp :=
  open Classical in fun b => if ∃ id sz, id ∈ s ∧ β id = some (b, sz) then w.heap[b]? else H b

def bcall (β : Bt) (ids : List Id) : Bt
  | .bor k => (ids[k]?).bind β
  | _ => none

theorem hcall_le (hr : Rel P H β ob w) (s : List Id) : H.le (hcall H β w s) := fun b x h => by
  unfold hcall; split
  · exact hr.hp b x h
  · exact h

theorem hcall_at {s : List Id} {id : Id} (hi : id ∈ s) {b sz : Nat} (hb : β id = some (b, sz)) : hcall H β w s b = w.heap[b]? := by
  unfold hcall; rw [if_pos ⟨id, sz, hi, hb⟩]

theorem apart_not {a b : List Id} (h : apart a b = true) {id : Id} (hi : id ∈ a) : id ∉ b := by
  simp only [apart, List.all_eq_true, Bool.not_eq_true', List.contains_eq_mem, decide_eq_false_iff_not] at h
  exact h id hi

theorem obs_get {l : List Ob} (h : obsNv l = true) {k : Nat} {o : Ob} (ho : l[k]? = some o) : V.nv.nvs o.cells = true ∧ o.fz = false := by
  simp only [obsNv, List.all_eq_true, Bool.and_eq_true, Bool.not_eq_true'] at h
  exact h o (List.mem_of_getElem? ho)

theorem obsLight_get {l : List Ob} (h : obsLight l = true) {k : Nat} {o : Ob} (ho : l[k]? = some o) : o.cells.all (V.light depth) = true := by
  simp only [obsLight, List.all_eq_true] at h
  simpa using h o (List.mem_of_getElem? ho)

theorem CR.nv {cells : List V} {arr : Array Value} {off : Nat} (h : CR P H β cells arr off) (hn : V.nv.nvs cells = true) (β' : Bt) : CR P H β' cells arr off :=
  ⟨h.1, fun k y u hy hu => (h.2 k y u hy hu).nv β' (nvs_get hn k y hy)⟩

theorem CR.light {cells : List V} {arr : Array Value} {off : Nat} (h : CR P H β cells arr off) (hn : cells.all (V.light depth) = true) (H' : Hp) (β' : Bt) : CR P H' β' cells arr off :=
  ⟨h.1, fun k y u hy hu => (h.2 k y u hy hu).light depth H' β' (light_all hn k y hy)⟩

set_option maxHeartbeats 2000000 in
theorem vCall_sound {E : Env} {C : Oracle} (hC : OkC P E C) (hG : GOK P E H) (hr : Rel P H β ob w) (hβ : ∀ k, g ≤ k → β (.own t k) = none) {f : V} {a : Value} {args : List V} {vs : Array Value}
    (hf : RV P H β f a) (hargs : PW P H β args vs) {r : Res} {l : List Id} (h : (vCall P E C f args t g).run ob = some (r, l)) :
    ∃ fid cs, a = .func (.func fid) #[] cs ∧ callOk P fid = true ∧ Calls P fid (vs ++ cs) w fun e w' => ∃ v H' β', e = .returned v ∧ Out P H β ob w t g r v H' β' w' := by
  cases f with
  | fn fid caps =>
    cases hf with
    | fn _ _ _ cs hcn hcr =>
    suffices hsuf : callOk P fid = true ∧ Calls P fid (vs ++ cs) w fun e w' => ∃ v H' β', e = .returned v ∧ Out P H β ob w t g r v H' β' w' from ⟨fid, cs, rfl, hsuf.1, hsuf.2⟩
    simp only [vCall] at h
    generalize hids : dedup ((args ++ caps).flatMap (refs (E.mutA fid) depth)) = ids at h
    have hnd : ids.Nodup := by rw [← hids]; exact nodup_dedup _
    obtain ⟨as', l1, l2, h1, h, _⟩ := Rd.run_bind h
    obtain ⟨obs, l3, l4, h2, h, _⟩ := Rd.run_bind h
    obtain ⟨bo, l5, l6, h3, h, _⟩ := Rd.run_bind h
    obtain ⟨s1, l7, l8, h4, h, _⟩ := Rd.run_bind h
    obtain ⟨s2, l9, l10, h5, h, _⟩ := Rd.run_bind h
    cases hcall0 : C fid as' bo with
    | none => rw [hcall0] at h; exact (Rd.run_fail h).elim
    | some q =>
      obtain ⟨res, bo', ro⟩ := q
      rw [hcall0] at h
      simp only at h
      cases hback : back ids t g depth res with
      | none => rw [hback] at h; exact (Rd.run_fail h).elim
      | some v =>
        rw [hback] at h
        simp only at h
        split at h
        · exact (Rd.run_fail h).elim
        · rename_i hcond
          simp only [Bool.not_eq_true', Bool.not_eq_false, Bool.and_eq_true, beq_iff_eq] at hcond
          obtain ⟨⟨⟨hbl, hbnv⟩, hrnv⟩, hap⟩ := hcond
          -- the callee's view
          let s := s1 ++ s2
          let Hc := hcall H β w s
          let βc := bcall β ids
          have hHc : H.le Hc := hcall_le hr s
          obtain ⟨ho1, ho2⟩ := lookAll_run h2
          obtain ⟨hb1, hb2⟩ := nrmObs_run h3
          have hnm : ∀ id id', ((idx id ids).map Id.bor) = some id' → βc id' = β id := by
            intro id id' hi
            obtain ⟨k, hk, rfl⟩ := Option.map_eq_some_iff.1 hi
            simp [βc, bcall, idx_some hk]
          have hown : ∀ {id id' : Id} {o o' : Ob} {b sz sz' : Nat}, ob id = some o → ob id' = some o' → β id = some (b, sz) → β id' = some (b, sz') → id = id' := fun p q r s => hr.inj _ _ _ _ _ _ _ p q r s
          have hlook : ∀ id ∈ s, ∃ o, ob id = some o := by
            have key : ∀ (d : Nat) (nm : Id → Option Id) (bs : Bool) (v : V) (s' rd : List Id), (slIds P nm bs d v).run ob = some (s', rd) → ∀ id ∈ s', ∃ o, ob id = some o := by
              intro d
              induction d with
              | zero => intro nm bs v s' rd h id hi; have := Rd.run_pure h; simp only [Prod.mk.injEq] at this; rw [this.1] at hi; simp at hi
              | succ d ih =>
                have mp : ∀ (nm : Id → Option Id) (bs : Bool) (l : List V) (s' rd : List Id), (mapIds (slIds P nm bs d) l).run ob = some (s', rd) → ∀ id ∈ s', ∃ o, ob id = some o := by
                  intro nm bs l
                  induction l with
                  | nil => intro s' rd h id hi; have := Rd.run_pure h; simp only [Prod.mk.injEq] at this; rw [this.1] at hi; simp at hi
                  | cons x l ihl =>
                    intro s' rd h id hi
                    obtain ⟨p, q1, q2, q3, q4, _⟩ := Rd.run_bind h
                    obtain ⟨p', q5, q6, q7, q8, _⟩ := Rd.run_bind q4
                    have := Rd.run_pure q8; simp only [Prod.mk.injEq] at this; rw [this.1] at hi
                    rcases List.mem_append.1 hi with hi | hi
                    · exact ih _ _ _ _ _ q3 id hi
                    · exact ihl _ _ q7 id hi
                intro nm bs v s' rd h id hi
                cases v with
                | sl id0 off n e x =>
                  simp only [slIds] at h
                  split at h
                  · have := Rd.run_pure h; simp only [Prod.mk.injEq] at this; rw [this.1] at hi; simp at hi
                  · obtain ⟨o, l', ho, hx, _⟩ := Rd.run_look h
                    split at hx
                    · split at hx
                      · have := Rd.run_pure hx; simp only [Prod.mk.injEq] at this; rw [this.1] at hi; simp at hi; subst hi; exact ⟨o, ho⟩
                      · obtain ⟨p, q1, q2, q3, q4, _⟩ := Rd.run_bind hx
                        have := Rd.run_pure q4; simp only [Prod.mk.injEq] at this; rw [this.1] at hi
                        rcases List.mem_cons.1 hi with rfl | hi
                        · exact ⟨o, ho⟩
                        · exact mp _ _ _ _ _ q3 id hi
                    · exact (Rd.run_fail hx).elim
                | fn f0 caps0 => exact mp _ _ _ _ _ h id hi
                | agg l0 =>
                  simp only [slIds] at h
                  split at h
                  · have := Rd.run_pure h; simp only [Prod.mk.injEq] at this; rw [this.1] at hi; simp at hi
                  · exact mp _ _ _ _ _ h id hi
                | tup l0 =>
                  simp only [slIds] at h
                  split at h
                  · have := Rd.run_pure h; simp only [Prod.mk.injEq] at this; rw [this.1] at hi; simp at hi
                  · exact mp _ _ _ _ _ h id hi
                | _ =>
                  have := Rd.run_pure h; simp only [Prod.mk.injEq] at this; rw [this.1] at hi; simp at hi
            have mp : ∀ (nm : Id → Option Id) (bs : Bool) (l : List V) (s' rd : List Id), (mapIds (slIds P nm bs depth) l).run ob = some (s', rd) → ∀ id ∈ s', ∃ o, ob id = some o := by
              intro nm bs l
              induction l with
              | nil => intro s' rd h id hi; have := Rd.run_pure h; simp only [Prod.mk.injEq] at this; rw [this.1] at hi; simp at hi
              | cons x l ihl =>
                intro s' rd h id hi
                obtain ⟨p, q1, q2, q3, q4, _⟩ := Rd.run_bind h
                obtain ⟨p', q5, q6, q7, q8, _⟩ := Rd.run_bind q4
                have := Rd.run_pure q8; simp only [Prod.mk.injEq] at this; rw [this.1] at hi
                rcases List.mem_append.1 hi with hi | hi
                · exact key _ _ _ _ _ _ q3 id hi
                · exact ihl _ _ q7 id hi
            intro id hi
            rcases List.mem_append.1 hi with hi | hi
            · exact mp _ _ _ _ _ h4 id hi
            · exact mp _ _ _ _ _ h5 id hi
          -- a block that no handed slice has is frozen for the callee only if it was
          have hHnone : ∀ {id : Id} {o : Ob} {b sz : Nat}, ob id = some o → β id = some (b, sz) → id ∉ s → Hc b = H b := by
            intro id o b sz ho hb hi
            simp only [Hc, hcall]
            rw [if_neg]
            rintro ⟨id', sz', hi', hb'⟩
            obtain ⟨o', ho'⟩ := hlook id' hi'
            exact hi (hown ho ho' hb hb' ▸ hi')
          have hsb : ∀ id ∈ s, ∀ b sz, β id = some (b, sz) → Hc b = w.heap[b]? := fun id hi b sz hb => hcall_at hi hb
          have hPW : PW P Hc βc as' (vs ++ cs) := by
            obtain ⟨q1, q2⟩ := mapRd_run h1
            refine ⟨by rw [q1]; simp [hargs.1, hcn], fun k y u hy hu => ?_⟩
            have hk : k < (args ++ caps).length := by rw [← q1]; exact (List.getElem?_eq_some_iff.1 hy).1
            obtain ⟨v', r1, p1, p2⟩ := q2 k _ (List.getElem?_eq_getElem hk)
            rw [hy] at p2; cases p2
            obtain ⟨s', r2, p3, p4⟩ := mapIds_run h4 k _ (List.getElem?_eq_getElem hk)
            have hrv : RV P H β ((args ++ caps)[k]) u := by
              have hy' : (args ++ caps)[k]? = some ((args ++ caps)[k]) := List.getElem?_eq_getElem hk
              rw [List.getElem?_append] at hy'
              split at hy'
              · rename_i hka
                exact hargs.2 k _ u hy' (by rw [Array.getElem?_append_left (by rw [hargs.1]; exact hka)] at hu; exact hu)
              · rename_i hka
                exact hcr _ _ u hy' (by rw [Array.getElem?_append_right (by rw [hargs.1]; omega), hargs.1] at hu; exact hu)
            exact nrm_sound hr hHc _ _ _ _ _ _ _ _ _ _ hrv p1 p3 hnm (fun id hi => hsb id (List.mem_append.2 (.inl (p4 id hi))))
          have hRel : Rel P Hc βc (obB bo) w := by
            refine ⟨fun id o ho => ?_, fun id id' o o' b sz sz' ho ho' hb hb' => ?_, fun b x hx => ?_⟩
            · cases id with
              | own => simp [obB] at ho
              | ret => simp [obB] at ho
              | bor k =>
                simp only [obB] at ho
                have hk : k < ids.length := by rw [← ho1, ← hb1]; exact (List.getElem?_eq_some_iff.1 ho).1
                obtain ⟨o0, p1, p2⟩ := ho2 k ids[k] (by simp [hk])
                obtain ⟨pf, c, r1, p3, p4⟩ := hb2 k o0 p2
                rw [ho] at p4; cases p4
                obtain ⟨b, sz, arr, fr, q1, q2, q3, q4, q5, q6, q7⟩ := (hr.obj _ _ p1).out
                have hbk : βc (.bor k) = some (b, sz) := by simp [βc, bcall, hk, q1]
                obtain ⟨z1, z2⟩ := mapRd_run p3
                refine ⟨b, sz, arr, fr, hbk, q2, q3, q4, ⟨by rw [z1]; exact q5.1, fun j y u hy hu => ?_⟩, by simp, fun _ => ?_⟩
                · have hj : j < o0.cells.length := by rw [← z1]; exact (List.getElem?_eq_some_iff.1 hy).1
                  obtain ⟨v', r2, y1, y2⟩ := z2 j _ (List.getElem?_eq_getElem hj)
                  rw [hy] at y2; cases y2
                  have hmem : ∃ m : Nat, (obs.flatMap Ob.cells)[m]? = some o0.cells[j] := by
                    have : o0.cells[j] ∈ obs.flatMap Ob.cells := List.mem_flatMap.2 ⟨o0, List.mem_of_getElem? p2, List.getElem_mem hj⟩
                    obtain ⟨m, hm, he⟩ := List.getElem_of_mem this
                    exact ⟨m, by rw [List.getElem?_eq_getElem hm, he]⟩
                  obtain ⟨m, hm⟩ := hmem
                  obtain ⟨s', r3, p5, p6⟩ := mapIds_run h5 m _ hm
                  exact nrm_sound hr hHc _ _ _ _ _ _ _ _ _ _ (q5.2 j _ u (List.getElem?_eq_getElem hj) hu) y1 p5 (fun _ _ h => by simp at h) (fun id hi => hsb id (List.mem_append.2 (.inr (p6 id hi))))
                · rw [hHnone p1 q1 (apart_not hap (List.getElem_mem hk))]; exact q7 pf
            · cases id with
              | own => simp [obB] at ho
              | ret => simp [obB] at ho
              | bor k =>
                cases id' with
                | own => simp [obB] at ho'
                | ret => simp [obB] at ho'
                | bor k' =>
                  simp only [obB] at ho ho'
                  have hk : k < ids.length := by rw [← ho1, ← hb1]; exact (List.getElem?_eq_some_iff.1 ho).1
                  have hk' : k' < ids.length := by rw [← ho1, ← hb1]; exact (List.getElem?_eq_some_iff.1 ho').1
                  obtain ⟨o0, p1, p2⟩ := ho2 k ids[k] (by simp [hk])
                  obtain ⟨o0', p1', p2'⟩ := ho2 k' ids[k'] (by simp [hk'])
                  simp [βc, bcall, hk] at hb
                  simp [βc, bcall, hk'] at hb'
                  have := hown p1 p1' hb hb'
                  have := (List.getElem_inj (h₀ := hk) (h₁ := hk') hnd).1 this
                  rw [this]
            · simp only [Hc, hcall] at hx
              split at hx
              · exact hx
              · exact hr.hp b x hx
          have hβdom : ∀ id x, βc id = some x → ∃ k, k < bo.length ∧ id = .bor k := by
            intro id x hx
            cases id with
            | own => simp [βc, bcall] at hx
            | ret => simp [βc, bcall] at hx
            | bor k =>
              refine ⟨k, ?_, rfl⟩
              rw [hb1, ho1]
              simp only [βc, bcall, Option.bind_eq_some_iff] at hx
              obtain ⟨id, h1, _⟩ := hx
              exact (List.getElem?_eq_some_iff.1 h1).1
          refine ⟨(hC fid as' bo res bo' ro hcall0).2, ?_⟩
          refine ((hC fid as' bo res bo' ro hcall0).1 Hc βc w (vs ++ cs) (hG.mono hHc) hβdom hRel hPW).mono ?_
          rintro e w' ⟨u, H', β', rfl, hp⟩
          -- the caller's view behind the call
          let βn : Bt := fun id => match id with
            | .own t' g' => if t' = t ∧ g ≤ g' ∧ g' < g + ro.length then β' (.ret (g' - g)) else β id
            | id => β id
          have hβn : β.le βn := by
            intro id x hx
            cases id with
            | own t' g' =>
              simp only [βn]
              split
              · rename_i hc
                obtain ⟨rfl, hc1, hc2⟩ := hc
                rw [hβ g' hc1] at hx; simp at hx
              · exact hx
            | _ => exact hx
          have hret : ∀ k x, β' (.ret k) = some x → k < ro.length ∧ w.heap.size ≤ x.1 ∧ x.1 < w'.heap.size := by
            intro k x hx
            rcases hp.nw _ _ hx with h | ⟨k', e1, e2, e3, e4⟩
            · simp [βc, bcall] at h
            · simp at e1; subst e1; exact ⟨e2, e3, e4⟩
          have hbn1 : ∀ k id x, ids[k]? = some id → β' (.bor k) = some x → βn id = some x := by
            intro k id x hk hx
            have : βc (.bor k) = some x := by
              rcases hp.nw _ _ hx with h | ⟨k', e1, _⟩
              · exact h
              · simp at e1
            simp [βc, bcall, hk] at this
            exact hβn _ _ this
          have hbn2 : ∀ k x, β' (.ret k) = some x → βn (.own t (g + k)) = some x := by
            intro k x hx
            obtain ⟨q1, _⟩ := hret k x hx
            simp only [βn]
            rw [if_pos ⟨trivial, by omega, by omega⟩]
            rw [show g + k - g = k by omega]; exact hx
          have hrvb := back_sound (g := g) (t := t) hbn1 hbn2 depth res v u hp.rv hback
          have hnwO : ∀ id x, βn id = some x → β id = some x ∨ ∃ k, k < ro.length ∧ id = .own t (g + k) ∧ x.1 < w'.heap.size ∧ (w.heap.size ≤ x.1 ∨ ∃ t' g' sz, β (.own t' g') = some (x.1, sz)) := by
            intro id x hx
            cases id with
            | own t' g' =>
              simp only [βn] at hx
              split at hx
              · rename_i hc
                obtain ⟨rfl, hc1, hc2⟩ := hc
                obtain ⟨q1, q2, q3⟩ := hret _ _ hx
                exact .inr ⟨g' - g, q1, by simp; omega, q3, .inl q2⟩
              · exact .inl hx
            | _ => exact .inl hx
          have hkeep : Keep w w' (fun b => ∃ id sz, β id = some (b, sz)) := hp.keep.imp fun b _ hb => by
            obtain ⟨k, sz, hb⟩ := hb
            simp only [βc, bcall, Option.bind_eq_some_iff] at hb
            obtain ⟨id, _, hb⟩ := hb
            exact ⟨id, sz, hb⟩
          -- a live object that is not lent has its block as it was
          have hsame : ∀ {id : Id} {o : Ob} {b sz : Nat}, ob id = some o → β id = some (b, sz) → id ∉ ids → w'.heap[b]? = w.heap[b]? := by
            intro id o b sz ho hb hi
            refine hp.keep.blk b (hr.lt ho hb) ?_
            rintro ⟨k, sz', hb'⟩
            simp only [βc, bcall, Option.bind_eq_some_iff] at hb'
            obtain ⟨id', h1', hb'⟩ := hb'
            obtain ⟨o', p1, _⟩ := ho2 k id' h1'
            exact hi (hown ho p1 hb hb' ▸ List.mem_of_getElem? h1')
          -- the objects behind the call, whatever was frozen
          have hobU : ∀ (fr : Id → Option Ob) (id : Id), applyUp fr (ids.zip (bo'.map some) ++ newUps t g 0 ro) id =
              match id with
              | .own t' g' => if t' = t ∧ g ≤ g' ∧ g' < g + ro.length then ro[g' - g]? else (match idx id ids with | some k => bo'[k]? | none => fr id)
              | id => (match idx id ids with | some k => bo'[k]? | none => fr id) := by
            intro fr id
            rw [applyUp_append, applyUp_newUps]
            cases id with
            | own t' g' =>
              simp only [Nat.add_zero]
              split
              · rfl
              · exact applyUp_zip ids bo' fr _ hnd hbl
            | bor k => exact applyUp_zip ids bo' fr _ hnd hbl
            | ret k => exact applyUp_zip ids bo' fr _ hnd hbl
          -- the three kinds of objects
          have hkind : ∀ (fr : Id → Option Ob) (id : Id) (o : Ob), applyUp fr (ids.zip (bo'.map some) ++ newUps t g 0 ro) id = some o →
              (∃ k, id = .own t (g + k) ∧ ro[k]? = some o ∧ (∃ x, β' (.ret k) = some x ∧ βn id = some x)) ∨ (∃ k, ids[k]? = some id ∧ bo'[k]? = some o ∧ (∃ x, β' (.bor k) = some x ∧ βn id = some x)) ∨ (id ∉ ids ∧ fr id = some o) := by
            intro fr id o ho
            rw [hobU] at ho
            have hb2 : ∀ k, idx id ids = some k → bo'[k]? = some o → ∃ k, ids[k]? = some id ∧ bo'[k]? = some o ∧ (∃ x, β' (.bor k) = some x ∧ βn id = some x) := by
              intro k hk hbo
              have hrel := hp.rel.obj (.bor k) o (by simpa [obR] using hbo)
              obtain ⟨b, sz, arr, fr', q1, _⟩ := hrel.out
              exact ⟨k, idx_some hk, hbo, (b, sz), q1, hbn1 k id _ (idx_some hk) q1⟩
            have hrest : (match idx id ids with | some k => bo'[k]? | none => fr id) = some o → (∃ k, ids[k]? = some id ∧ bo'[k]? = some o ∧ (∃ x, β' (.bor k) = some x ∧ βn id = some x)) ∨ (id ∉ ids ∧ fr id = some o) := by
              intro h
              cases hq : idx id ids with
              | none => rw [hq] at h; exact .inr ⟨idx_none hq, h⟩
              | some k => rw [hq] at h; exact .inl (hb2 k hq h)
            cases id with
            | own t' g' =>
              simp only at ho
              split at ho
              · rename_i hc
                obtain ⟨rfl, hc1, hc2⟩ := hc
                refine .inl ⟨g' - g, by simp; omega, ho, ?_⟩
                have hrel := hp.rel.obj (.ret (g' - g)) o (by simpa [obR] using ho)
                obtain ⟨b, sz, arr, fr', q1, _⟩ := hrel.out
                refine ⟨(b, sz), q1, ?_⟩
                have := hbn2 _ _ q1
                rwa [show g + (g' - g) = g' by omega] at this
              · exact .inr (hrest ho)
            | bor k => exact .inr (hrest ho)
            | ret k => exact .inr (hrest ho)
          have hinj : ∀ (fr : Id → Option Ob), (∀ id o, fr id = some o → ∃ o', ob id = some o') → ∀ id id' o o' b sz sz', applyUp fr (ids.zip (bo'.map some) ++ newUps t g 0 ro) id = some o →
              applyUp fr (ids.zip (bo'.map some) ++ newUps t g 0 ro) id' = some o' → βn id = some (b, sz) → βn id' = some (b, sz') → id = id' := by
            intro fr hfr id id' o o' b sz sz' ho ho' hb hb'
            -- each object's block is either new or its old one
            have cls : ∀ id o b sz, applyUp fr (ids.zip (bo'.map some) ++ newUps t g 0 ro) id = some o → βn id = some (b, sz) →
                (∃ k, id = .own t (g + k) ∧ β' (.ret k) = some (b, sz) ∧ ro[k]? = some o ∧ w.heap.size ≤ b) ∨ (∃ o1, ob id = some o1 ∧ β id = some (b, sz) ∧ b < w.heap.size) := by
              intro id o b sz ho hb
              rcases hkind fr id o ho with ⟨k, e1, e2, x, e3, e4⟩ | ⟨k, e1, e2, x, e3, e4⟩ | ⟨e1, e2⟩
              · rw [hb] at e4; cases e4
                exact .inl ⟨k, e1, e3, e2, (hret _ _ e3).2.1⟩
              · rw [hb] at e4; cases e4
                obtain ⟨o1, p1, _⟩ := ho2 k id e1
                have hbc : βc (.bor k) = some (b, sz) := by
                  rcases hp.nw _ _ e3 with h | ⟨k', e5, _⟩
                  · exact h
                  · simp at e5
                simp [βc, bcall, e1] at hbc
                exact .inr ⟨o1, p1, hbc, hr.lt p1 hbc⟩
              · obtain ⟨o1, p1⟩ := hfr id o e2
                obtain ⟨b1, sz1, _, _, q1, _⟩ := (hr.obj _ _ p1).out
                have := hβn _ _ q1
                rw [hb] at this; cases this
                exact .inr ⟨o1, p1, q1, hr.lt p1 q1⟩
            rcases cls _ _ _ _ ho hb with ⟨k, e1, e2, e3, e4⟩ | ⟨o1, e1, e2, e3⟩ <;> rcases cls _ _ _ _ ho' hb' with ⟨k', f1, f2, f3, f4⟩ | ⟨o2, f1, f2, f3⟩
            · have := hp.rel.inj (.ret k) (.ret k') o o' b sz sz' (by simpa [obR] using e3) (by simpa [obR] using f3) e2 f2
              simp at this
              rw [e1, f1, this]
            · omega
            · omega
            · exact hown e1 f1 e2 f2
          by_cases hlight : (v.light depth && obsLight bo' && obsLight ro) = true
          · rw [if_pos hlight] at h
            simp only [Bool.and_eq_true] at hlight
            obtain ⟨⟨hl1, hl2⟩, hl3⟩ := hlight
            have := Rd.run_pure h; simp only [Prod.mk.injEq] at this; obtain ⟨rfl, rfl⟩ := this
            refine ⟨u, H, βn, rfl, Hp.le_refl _, hβn, hnwO, hrvb.light depth H βn hl1, ⟨fun id o ho => ?_, hinj ob (fun id o h => ⟨o, h⟩), fun b x hx => hp.rel.hp b x (hp.hH _ _ (hHc _ _ hx))⟩, hkeep, fun b x hx hx' => by simp [hx] at hx'⟩
            rcases hkind ob id o ho with ⟨k, e1, e2, x, e3, e4⟩ | ⟨k, e1, e2, x, e3, e4⟩ | ⟨e1, e2⟩
            · obtain ⟨b, sz, arr, fr, q1, q2, q3, q4, q5, q6, q7⟩ := (hp.rel.obj (.ret k) o (by simpa [obR] using e2)).out
              rw [e3] at q1; cases q1
              have hb0 : w.heap.size ≤ b := (hret _ _ e3).2.1
              have hHb : H b = none := by
                cases hx : H b with
                | none => rfl
                | some x => have := hr.hp _ _ hx; have := (Array.getElem?_eq_some_iff.1 this).1; omega
              exact ⟨b, sz, arr, fr, e4, q2, q3, q4, q5.light (obsLight_get hl3 e2) H βn, fun hf => by rw [(obs_get hrnv e2).2] at hf; simp at hf, fun _ => hHb⟩
            · obtain ⟨b, sz, arr, fr, q1, q2, q3, q4, q5, q6, q7⟩ := (hp.rel.obj (.bor k) o (by simpa [obR] using e2)).out
              rw [e3] at q1; cases q1
              have hHb : H b = none := by
                cases hx : H b with
                | none => rfl
                | some x => have := hp.hH _ _ (hHc _ _ hx); rw [q7 (obs_get hbnv e2).2] at this; simp at this
              exact ⟨b, sz, arr, fr, e4, q2, q3, q4, q5.light (obsLight_get hl2 e2) H βn, fun hf => by rw [(obs_get hbnv e2).2] at hf; simp at hf, fun _ => hHb⟩
            · exact (hr.obj id o e2).mono (Hp.le_refl _) hβn (fun b sz hb => hsame e2 hb e1) (fun _ _ _ => rfl)
          · rw [if_neg hlight] at h
            split at h
            · exact (Rd.run_fail h).elim
            · rename_i hallown
              simp only [Bool.not_eq_true', Bool.not_eq_false, List.all_eq_true] at hallown
              obtain ⟨fr, l11, l12, h6, h, _⟩ := Rd.run_bind h
              have hfr := freezeAll_run h6
              have := Rd.run_pure h; simp only [Prod.mk.injEq] at this; obtain ⟨rfl, rfl⟩ := this
              have hfz : ∀ id, applyUp ob fr id = if id ∈ dedup s then (ob id).map (fun o => { o with fz := true }) else ob id := by
                intro id
                rw [hfr]
                exact applyUp_freeze (dedup s) ob ob id (nodup_dedup _) (fun _ _ => rfl)
              have hfrob : ∀ id o, applyUp ob fr id = some o → ∃ o', ob id = some o' := by
                intro id o h
                rw [hfz] at h
                split at h
                · obtain ⟨o', h1, _⟩ := Option.map_eq_some_iff.1 h; exact ⟨o', h1⟩
                · exact ⟨o, h⟩
              have hHfin : H.le H' := Hp.le_trans hHc hp.hH
              refine ⟨u, H', βn, rfl, hHfin, hβn, hnwO, hrvb, ?_, hkeep, fun b x hx hx' => ?_⟩
              · rw [List.append_assoc, applyUp_append]
                refine ⟨fun id o ho => ?_, hinj _ hfrob, hp.rel.hp⟩
                rcases hkind _ id o ho with ⟨k, e1, e2, x, e3, e4⟩ | ⟨k, e1, e2, x, e3, e4⟩ | ⟨e1, e2⟩
                · obtain ⟨b, sz, arr, fr', q1, q2, q3, q4, q5, q6, q7⟩ := (hp.rel.obj (.ret k) o (by simpa [obR] using e2)).out
                  rw [e3] at q1; cases q1
                  exact ⟨b, sz, arr, fr', e4, q2, q3, q4, q5.nv (obs_get hrnv e2).1 βn, q6, q7⟩
                · obtain ⟨b, sz, arr, fr', q1, q2, q3, q4, q5, q6, q7⟩ := (hp.rel.obj (.bor k) o (by simpa [obR] using e2)).out
                  rw [e3] at q1; cases q1
                  exact ⟨b, sz, arr, fr', e4, q2, q3, q4, q5.nv (obs_get hbnv e2).1 βn, q6, q7⟩
                · rw [hfz] at e2
                  split at e2
                  · rename_i hin
                    have hin' : id ∈ s := mem_dedup.1 hin
                    obtain ⟨o0, p1, rfl⟩ := Option.map_eq_some_iff.1 e2
                    obtain ⟨b, sz, arr, fr', q1, q2, q3, q4, q5, q6, q7⟩ := (hr.obj _ _ p1).out
                    have hHb : H' b = some (.cells arr o0.ty fr') := hp.hH _ _ ((hcall_at hin' q1).trans q2)
                    exact ⟨b, sz, arr, fr', hβn _ _ q1, (hsame p1 q1 e1).trans q2, q3, q4, q5.mono hHfin hβn, fun _ => hHb, fun hf => by simp at hf⟩
                  · rename_i hin
                    have hin' : id ∉ s := fun h => hin (mem_dedup.2 h)
                    obtain ⟨b, sz, arr, fr', q1, q2, q3, q4, q5, q6, q7⟩ := (hr.obj _ _ e2).out
                    refine ⟨b, sz, arr, fr', hβn _ _ q1, (hsame e2 q1 e1).trans q2, q3, q4, q5.mono hHfin hβn, fun hf => hHfin _ _ (q6 hf), fun hf => ?_⟩
                    have hn := q7 hf
                    cases hx : H' b with
                    | none => rfl
                    | some x =>
                      have hcn : Hc b = none := (hHnone e2 q1 hin').trans hn
                      have := hp.hfr b x hx hcn
                      have := hr.lt e2 q1
                      omega
              · cases hcb : Hc b with
                | none => exact .inl (hp.hfr b x hx hcb)
                | some y =>
                  have hcb' := hcb
                  simp only [Hc, hcall] at hcb'
                  split at hcb'
                  · rename_i hex
                    obtain ⟨id, sz, hi, hb⟩ := hex
                    have := hallown id hi
                    cases id with
                    | own t' g' => exact .inr ⟨t', g', sz, hb⟩
                    | _ => simp [isOwn] at this
                  · rw [hcb'] at hx'; simp at hx'
  | _ => simp [vCall, Rd.run] at h
end
end Go.Vi
