/- Vi, part 24: the interpreter with decisions: where a symbolic truth is met, or a call whose answer is known, the answer is given and noted as a condition. -/
import Derived.Test.YtbiifkfehfapkaaDoorVi23
namespace Go.Vi

inductive Dec where
  | cond (v : Bool)
  | guard (v : Bool)
  | call (r : V × List Ob × List Ob)
  | res (r : Res) (l : List Id)

abbrev Ds := List (Nat × Dec)

theorem Rd.run_bind_eq {α γ : Type} {ob : Id → Option Ob} {m : Rd α} {a : α} {l : List Id} (f : α → Rd γ) (h : m.run ob = some (a, l)) :
    (m.bind f).run ob = ((f a).run ob).map fun x => (x.1, l ++ x.2) := by
  induction m generalizing l with
  | pure b => simp only [Rd.run, Option.some.injEq, Prod.mk.injEq] at h; obtain ⟨rfl, rfl⟩ := h; simp [Rd.bind]
  | fail => simp [Rd.run] at h
  | look id k ih =>
    simp only [Rd.run] at h
    cases ho : ob id with
    | none => rw [ho] at h; simp at h
    | some o =>
      rw [ho] at h
      simp only at h
      cases hk : (k o).run ob with
      | none => rw [hk] at h; simp at h
      | some x =>
        obtain ⟨b, l1⟩ := x
        rw [hk] at h
        simp only [Option.some.injEq, Prod.mk.injEq] at h
        obtain ⟨rfl, rfl⟩ := h
        simp only [Rd.bind, Rd.run, ho, ih o hk]
        cases (f b).run ob with
        | none => rfl
        | some y => rfl

theorem Rd.run_bind_none {α γ : Type} {ob : Id → Option Ob} {m : Rd α} (f : α → Rd γ) (h : m.run ob = none) : (m.bind f).run ob = none := by
  induction m with
  | pure b => simp [Rd.run] at h
  | fail => rfl
  | look id k ih =>
    simp only [Rd.run] at h
    cases ho : ob id with
    | none => simp [Rd.bind, Rd.run, ho]
    | some o =>
      rw [ho] at h
      simp only at h
      cases hk : (k o).run ob with
      | some x => rw [hk] at h; simp at h
      | none => simp only [Rd.bind, Rd.run, ho, ih o hk]

section
variable (P : Program)

/-- What a call asks. -/
def preCall (E : Env) (f : V) (args : List V) : Rd (FuncId × List V × List Ob) :=
  match f with
  | .fn f caps =>
    let as := args ++ caps
    let bs := E.mutA f
    let ids := dedup (as.flatMap (refs bs depth))
    let nm := fun id => (idx id ids).map Id.bor
    (mapRd (nrm P nm bs depth) as).bind fun as' =>
    (lookAll ids).bind fun obs =>
    (nrmObs P obs).bind fun bo => .pure (f, as', bo)
  | _ => .fail

theorem vCall_pre {E : Env} {C : Oracle} {f : V} {args : List V} {t g : Nat} {ob : Id → Option Ob} {q : FuncId × List V × List Ob} {l : List Id} {r : V × List Ob × List Ob} (h : (preCall P E f args).run ob = some (q, l))
    (hC : C q.1 q.2.1 q.2.2 = some r) : (vCall P E C f args t g).run ob = (vCall P E (fun _ _ _ => some r) f args t g).run ob := by
  cases f with
  | fn f caps =>
    simp only [preCall] at h
    simp only [vCall]
    cases h1 : (mapRd (nrm P (fun id => (idx id (dedup ((args ++ caps).flatMap (refs (E.mutA f) depth)))).map Id.bor) (E.mutA f) depth) (args ++ caps)).run ob with
    | none => rw [Rd.run_bind_none _ h1] at h; cases h
    | some x1 =>
      obtain ⟨as', l1⟩ := x1
      rw [Rd.run_bind_eq _ h1] at h
      rw [Rd.run_bind_eq _ h1, Rd.run_bind_eq _ h1]
      simp only [Option.map_eq_some_iff] at h
      obtain ⟨⟨q1, k1⟩, h, he⟩ := h
      cases h2 : (lookAll (dedup ((args ++ caps).flatMap (refs (E.mutA f) depth)))).run ob with
      | none => rw [Rd.run_bind_none _ h2] at h; cases h
      | some x2 =>
        obtain ⟨obs, l2⟩ := x2
        rw [Rd.run_bind_eq _ h2] at h
        rw [Rd.run_bind_eq _ h2, Rd.run_bind_eq _ h2]
        simp only [Option.map_eq_some_iff] at h
        obtain ⟨⟨q2, k2⟩, h, he2⟩ := h
        cases h3 : (nrmObs P obs).run ob with
        | none => rw [Rd.run_bind_none _ h3] at h; cases h
        | some x3 =>
          obtain ⟨bo, l3⟩ := x3
          rw [Rd.run_bind_eq _ h3] at h
          rw [Rd.run_bind_eq _ h3, Rd.run_bind_eq _ h3]
          simp only [Rd.run, Option.map_some, Option.some.injEq, Prod.mk.injEq] at h
          simp only [Prod.mk.injEq] at he he2
          obtain ⟨rfl, _⟩ := he
          obtain ⟨rfl, _⟩ := he2
          obtain ⟨rfl, _⟩ := h
          simp only at hC
          simp only [hC]
  | _ => simp [preCall, Rd.run] at h

def callOp (o : Oper) : Option (Operand × List Operand) :=
  match o.op with
  | .call c => match c.callee with | .value f => some (f, c.args.toList) | _ => none
  | _ => none

theorem core_pre {E : Env} {C : Oracle} {ρ : Operand → V} {t g : Nat} {o : Oper} {f : Operand} {as : List Operand} {ob : Id → Option Ob} {q : FuncId × List V × List Ob} {l : List Id} {r : V × List Ob × List Ob}
    (ho : callOp o = some (f, as)) (h : (preCall P E (ρ f) (as.map ρ)).run ob = some (q, l)) (hC : C q.1 q.2.1 q.2.2 = some r) :
    (core P E C ρ t g o).run ob = (core P E (fun _ _ _ => some r) ρ t g o).run ob := by
  unfold callOp at ho
  split at ho
  · rename_i c hc
    split at ho
    · rename_i f' hf'
      simp only [Option.some.injEq, Prod.mk.injEq] at ho
      obtain ⟨rfl, rfl⟩ := ho
      simp only [core, hc, hf']
      exact vCall_pre P h hC
    · cases ho
  · cases ho

/-- The truth first. -/
def sb {α : Type} (b : Bool) (f : Bool → α) : α :=
  match b with
  | true => f true
  | false => f false

theorem sb_eq {α : Type} (b : Bool) (f : Bool → α) : sb b f = f b := by cases b <;> rfl

/-- The truth in slot t is told. -/
def tellT (tm : Nat → V) (t : Nat) (v : Bool) : Nat → V := fun u => if u = t then .bool v else tm u

def wantA (ds : Ds) (key : Nat) (ops : Array Oper) (tm : Nat → V) (o : Oper) : Option (Bool × (Nat → V) × Ds × List Prop) :=
  match o.guard with
  | none => some (true, tm, ds, [])
  | some (j, w) =>
    match (ops[j]?).bind (·.dst) with
    | some t =>
      match tm t with
      | .bool b =>
        match ds with
        | (k, .guard v) :: r => if k = key then some (v == w, tellT tm t v, r, [b = v]) else sb (b == w) fun v => some (v, tm, ds, [])
        | _ => sb (b == w) fun v => some (v, tm, ds, [])
      | .tup _ => some (false, tm, ds, [])
      | _ => none
    | none => none

def coreA (E : Env) (C : Oracle) (ds : Ds) (key : Nat) (ρ : Operand → V) (t g : Nat) (o : Oper) (ob : Id → Option Ob) : Option (Res × List Id × Ds × List Prop) :=
  match ds with
  | (k, .res r l) :: rest =>
    if k = key then some (r, l, rest, [(core P E C ρ t g o).run ob = some (r, l)])
    else ((core P E C ρ t g o).run ob).map fun x => (x.1, x.2, ds, [])
  | (k, .call r) :: rest =>
    if k = key then
      match callOp o with
      | some (f, as) =>
        match (preCall P E (ρ f) (as.map ρ)).run ob with
        | some (q, _) => ((core P E (fun _ _ _ => some r) ρ t g o).run ob).map fun x => (x.1, x.2, rest, [C q.1 q.2.1 q.2.2 = some r])
        | none => none
      | none => none
    else ((core P E C ρ t g o).run ob).map fun x => (x.1, x.2, ds, [])
  | _ => ((core P E C ρ t g o).run ob).map fun x => (x.1, x.2, ds, [])

def effA (E : Env) (C : Oracle) (ds : Ds) (ops : Array Oper) (o : Oper) (s : St) : Option (Eff × St × Ds × List Prop) :=
  if !dstOk s o.dst then none else
  match wantA ds (o.dst.getD s.n) ops s.tm o with
  | none => none
  | some (false, tm, ds, cs) => some (⟨o.dst, .tup [], 0, [], []⟩, { s with tm := tm }, ds, cs)
  | some (true, tm, ds, cs) =>
    match coreA P E C ds (o.dst.getD s.n) (evO E tm) (o.dst.getD s.n) (s.nx (o.dst.getD s.n)) o s.ob with
    | none => none
    | some (r, l, ds', cs') => if o.dst.isNone && r.nw != 0 then none else some (⟨o.dst, r.v, r.nw, r.up, l⟩, { s with tm := tm }, ds', cs ++ cs')

def runA (E : Env) (C : Oracle) (ops : Array Oper) : Ds → List Oper → St → Option (St × Ds × List Prop)
  | ds, [], s => some (s, ds, [])
  | ds, o :: l, s =>
    match effA P E C ds ops o s with
    | none => none
    | some (e, s1, ds1, c1) =>
      match runA E C ops ds1 l (s1.app e) with
      | none => none
      | some (s', ds2, c2) => some (s', ds2, c1 ++ c2)

def effsA (E : Env) (C : Oracle) (ops : Array Oper) : Ds → List Oper → St → Option (List Eff × St × Ds × List Prop)
  | ds, [], s => some ([], s, ds, [])
  | ds, o :: l, s =>
    match effA P E C ds ops o s with
    | none => none
    | some (e, s1, ds1, c1) =>
      match effsA E C ops ds1 l (s1.app e) with
      | none => none
      | some (es, s', ds2, c2) => some (e :: es, s', ds2, c1 ++ c2)

def iterA (f : Ds → St → Option ((Ex × St) × Ds × List Prop)) : Nat → Ds → St → Option ((Ex × St) × Ds × List Prop)
  | 0, _, _ => none
  | k + 1, ds, s =>
    match f ds s with
    | some ((.normal, s'), ds1, c1) =>
      match iterA f k ds1 s' with
      | some (r, ds2, c2) => some (r, ds2, c1 ++ c2)
      | none => none
    | r => r

def condA (ds : Ds) (tm : Nat → V) : Operand → V → Option (Bool × (Nat → V) × Ds × List Prop)
  | .tmp t, .bool b =>
    match ds with
    | (k, .cond v) :: r => if k = t then some (v, tellT tm t v, r, [b = v]) else sb b fun v => some (v, tm, ds, [])
    | _ => sb b fun v => some (v, tm, ds, [])
  | _, .bool b => sb b fun v => some (v, tm, ds, [])
  | _, _ => none

def evA (E : Env) (C : Oracle) (fuel : Nat) : Code → Ds → St → Option ((Ex × St) × Ds × List Prop)
  | .skip, ds, s => some ((.normal, s), ds, [])
  | .label _, ds, s => some ((.normal, s), ds, [])
  | .region _ ops draw, ds, s =>
    if draw then
      match effsA P E C ops ds ops.toList s with
      | some (es, s', ds', cs) => if tmpsApart ops && effsApart es (loudPairs ops) then some ((.normal, s'), ds', cs) else none
      | none => none
    else (runA P E C ops ds ops.toList s).map fun x => ((.normal, x.1), x.2)
  | .seq a b, ds, s =>
    match evA E C fuel a ds s with
    | some ((.normal, s'), ds1, c1) =>
      match evA E C fuel b ds1 s' with
      | some (r, ds2, c2) => some (r, ds2, c1 ++ c2)
      | none => none
    | r => r
  | .cond c a b, ds, s =>
    match condA ds s.tm c (evO E s.tm c) with
    | some (true, tm, ds1, c1) => (evA E C fuel a ds1 { s with tm := tm }).map fun x => (x.1, x.2.1, c1 ++ x.2.2)
    | some (false, tm, ds1, c1) => (evA E C fuel b ds1 { s with tm := tm }).map fun x => (x.1, x.2.1, c1 ++ x.2.2)
    | none => none
  | .block id c, ds, s =>
    match evA E C fuel c ds s with
    | some ((.exit id', s'), r) => if id' = id then some ((.normal, s'), r) else some ((.exit id', s'), r)
    | r => r
  | .loop c, ds, s => iterA (evA E C fuel c) fuel ds s
  | .exit id, ds, s => some ((.exit id, s), ds, [])
  | .ret, ds, s => some ((.ret, s), ds, [])
  | _, _, _ => none
end

def AllP : List Prop → Prop
  | [] => True
  | p :: l => p ∧ AllP l

theorem AllP_app {a b : List Prop} (h : AllP (a ++ b)) : AllP a ∧ AllP b := by
  induction a with
  | nil => exact ⟨trivial, h⟩
  | cons p a ih =>
    obtain ⟨h1, h2⟩ := h
    obtain ⟨h3, h4⟩ := ih h2
    exact ⟨⟨h1, h3⟩, h4⟩

section
variable {P : Program} {E : Env} {C : Oracle}

theorem tellT_same {tm : Nat → V} {t : Nat} {v : Bool} (h : tm t = .bool v) : tellT tm t v = tm := by
  funext u
  simp only [tellT]
  split
  · rename_i e; rw [e, h]
  · rfl

theorem wantA_ok {ds ds' : Ds} {key : Nat} {ops : Array Oper} {tm tm' : Nat → V} {o : Oper} {b : Bool} {cs : List Prop} (h : wantA ds key ops tm o = some (b, tm', ds', cs)) (hc : AllP cs) : want ops tm o = some b ∧ tm' = tm := by
  unfold wantA at h
  simp only [sb_eq] at h
  unfold want
  split at h
  · rename_i hg; simp only [Option.some.injEq, Prod.mk.injEq] at h; rw [hg]; simp [← h.1, h.2.1]
  · rename_i j w hg
    rw [hg]
    simp only
    split at h
    · rename_i t ht
      rw [ht]
      simp only
      split at h
      · rename_i x hx
        rw [hx]
        simp only
        split at h
        · split at h
          · simp only [Option.some.injEq, Prod.mk.injEq] at h
            obtain ⟨rfl, rfl, _, rfl⟩ := h
            have e := hc.1
            subst e
            exact ⟨rfl, tellT_same hx⟩
          · simp only [Option.some.injEq, Prod.mk.injEq] at h; rw [h.1]; exact ⟨rfl, h.2.1.symm⟩
        · simp only [Option.some.injEq, Prod.mk.injEq] at h; rw [h.1]; exact ⟨rfl, h.2.1.symm⟩
      · rename_i hx; simp only [Option.some.injEq, Prod.mk.injEq] at h; rw [hx]; simp [← h.1, h.2.1]
      · cases h
    · cases h

theorem coreA_ok {ds ds' : Ds} {key : Nat} {ρ : Operand → V} {t g : Nat} {o : Oper} {ob : Id → Option Ob} {r : Res} {l : List Id} {cs : List Prop} (h : coreA P E C ds key ρ t g o ob = some (r, l, ds', cs)) (hc : AllP cs) :
    (core P E C ρ t g o).run ob = some (r, l) := by
  have plain : ∀ (ds : Ds), ((core P E C ρ t g o).run ob).map (fun x => (x.1, x.2, ds, ([] : List Prop))) = some (r, l, ds', cs) → (core P E C ρ t g o).run ob = some (r, l) := by
    intro ds h
    simp only [Option.map_eq_some_iff, Prod.mk.injEq] at h
    obtain ⟨⟨r', l'⟩, h1, rfl, rfl, _⟩ := h
    exact h1
  unfold coreA at h
  split at h
  · split at h
    · simp only [Option.some.injEq, Prod.mk.injEq] at h
      obtain ⟨rfl, rfl, _, rfl⟩ := h
      exact hc.1
    · exact plain _ h
  · split at h
    · split at h
      · rename_i f as ho
        split at h
        · rename_i q lq hq
          simp only [Option.map_eq_some_iff, Prod.mk.injEq] at h
          obtain ⟨⟨r', l'⟩, h1, rfl, rfl, _, rfl⟩ := h
          rw [core_pre P ho hq hc.1]
          exact h1
        · cases h
      · cases h
    · exact plain _ h
  · exact plain _ h

theorem effA_ok {ds ds' : Ds} {ops : Array Oper} {o : Oper} {s s1 : St} {e : Eff} {cs : List Prop} (h : effA P E C ds ops o s = some (e, s1, ds', cs)) (hc : AllP cs) : effOf P E C ops o s = some e ∧ s1 = s := by
  unfold effA at h
  unfold effOf
  split at h
  · cases h
  · rename_i hd
    rw [if_neg hd]
    split at h
    · cases h
    · rename_i tm1 ds1 cs1 hw
      simp only [Option.some.injEq, Prod.mk.injEq] at h
      obtain ⟨rfl, rfl, _, rfl⟩ := h
      obtain ⟨w1, rfl⟩ := wantA_ok hw hc
      rw [w1]
      exact ⟨rfl, rfl⟩
    · rename_i tm1 ds1 cs1 hw
      split at h
      · cases h
      · rename_i r l ds2 cs2 hr
        split at h
        · cases h
        · rename_i hn
          simp only [Option.some.injEq, Prod.mk.injEq] at h
          obtain ⟨rfl, rfl, _, rfl⟩ := h
          obtain ⟨c1, c2⟩ := AllP_app hc
          obtain ⟨w1, rfl⟩ := wantA_ok hw c1
          rw [w1]
          simp only
          rw [coreA_ok hr c2]
          simp only
          rw [if_neg hn]
          exact ⟨rfl, trivial⟩

theorem runA_ok {ops : Array Oper} : ∀ {l : List Oper} {ds ds' : Ds} {s s' : St} {cs : List Prop}, runA P E C ops ds l s = some (s', ds', cs) → AllP cs → runOps P E C ops l s = some s'
  | [], ds, ds', s, s', cs, h, _ => by simp only [runA, Option.some.injEq, Prod.mk.injEq] at h; simp [runOps, h.1]
  | o :: l, ds, ds', s, s', cs, h, hc => by
    simp only [runA] at h
    split at h
    · cases h
    · rename_i e s1 ds1 c1 he
      split at h
      · cases h
      · rename_i s2 ds2 c2 hr
        simp only [Option.some.injEq, Prod.mk.injEq] at h
        obtain ⟨rfl, _, rfl⟩ := h
        obtain ⟨q1, q2⟩ := AllP_app hc
        obtain ⟨k1, rfl⟩ := effA_ok he q1
        simp only [runOps, k1]
        exact runA_ok hr q2

theorem effsA_ok {ops : Array Oper} : ∀ {l : List Oper} {ds ds' : Ds} {s s' : St} {es : List Eff} {cs : List Prop}, effsA P E C ops ds l s = some (es, s', ds', cs) → AllP cs → effs P E C ops l s = some (es, s')
  | [], ds, ds', s, s', es, cs, h, _ => by simp only [effsA, Option.some.injEq, Prod.mk.injEq] at h; simp [effs, h.1, h.2.1]
  | o :: l, ds, ds', s, s', es, cs, h, hc => by
    simp only [effsA] at h
    split at h
    · cases h
    · rename_i e s1 ds1 c1 he
      split at h
      · cases h
      · rename_i es2 s2 ds2 c2 hr
        simp only [Option.some.injEq, Prod.mk.injEq] at h
        obtain ⟨rfl, rfl, _, rfl⟩ := h
        obtain ⟨q1, q2⟩ := AllP_app hc
        obtain ⟨k1, rfl⟩ := effA_ok he q1
        simp only [effs, k1, effsA_ok hr q2]

theorem iterA_ok {f : Ds → St → Option ((Ex × St) × Ds × List Prop)} {f' : St → Option (Ex × St)} (hf : ∀ ds s r ds' cs, f ds s = some (r, ds', cs) → AllP cs → f' s = some r) :
    ∀ (k : Nat) (ds : Ds) (s : St) (r : Ex × St) (ds' : Ds) (cs : List Prop), iterA f k ds s = some (r, ds', cs) → AllP cs → iter f' k s = some r
  | 0, ds, s, r, ds', cs, h, _ => by simp [iterA] at h
  | k + 1, ds, s, r, ds', cs, h, hc => by
    simp only [iterA] at h
    simp only [iter]
    split at h
    · rename_i s1 ds1 c1 h1
      split at h
      · rename_i r2 ds2 c2 h2
        simp only [Option.some.injEq, Prod.mk.injEq] at h
        obtain ⟨rfl, _, rfl⟩ := h
        obtain ⟨q1, q2⟩ := AllP_app hc
        rw [hf _ _ _ _ _ h1 q1]
        exact iterA_ok hf k _ _ _ _ _ h2 q2
      · cases h
    · rename_i hne
      rw [hf _ _ _ _ _ h hc]
      obtain ⟨e, s1⟩ := r
      cases e with
      | normal => exact absurd h (hne _ _ _)
      | exit id => rfl
      | ret => rfl

theorem condA_ok {ds ds' : Ds} {tm tm' : Nat → V} {c : Operand} {b : Bool} {cs : List Prop} (h : condA ds tm c (evO E tm c) = some (b, tm', ds', cs)) (hc : AllP cs) : evO E tm c = .bool b ∧ tm' = tm := by
  generalize hv : evO E tm c = v at h
  unfold condA at h
  simp only [sb_eq] at h
  split at h
  · split at h
    · split at h
      · simp only [Option.some.injEq, Prod.mk.injEq] at h
        obtain ⟨rfl, rfl, _, rfl⟩ := h
        have e := hc.1
        subst e
        exact ⟨rfl, tellT_same hv⟩
      · simp only [Option.some.injEq, Prod.mk.injEq] at h; rw [h.1]; exact ⟨rfl, h.2.1.symm⟩
    · simp only [Option.some.injEq, Prod.mk.injEq] at h; rw [h.1]; exact ⟨rfl, h.2.1.symm⟩
  · simp only [Option.some.injEq, Prod.mk.injEq] at h; rw [h.1]; exact ⟨rfl, h.2.1.symm⟩
  · cases h

theorem evA_ok {fuel : Nat} : ∀ (c : Code) (ds ds' : Ds) (s : St) (r : Ex × St) (cs : List Prop), evA P E C fuel c ds s = some (r, ds', cs) → AllP cs → evC P E C fuel c s = some r
  | .skip, ds, ds', s, r, cs, h, _ => by simp only [evA, Option.some.injEq, Prod.mk.injEq] at h; simp [evC, ← h.1]
  | .label _, ds, ds', s, r, cs, h, _ => by simp only [evA, Option.some.injEq, Prod.mk.injEq] at h; simp [evC, ← h.1]
  | .exit _, ds, ds', s, r, cs, h, _ => by simp only [evA, Option.some.injEq, Prod.mk.injEq] at h; simp [evC, ← h.1]
  | .ret, ds, ds', s, r, cs, h, _ => by simp only [evA, Option.some.injEq, Prod.mk.injEq] at h; simp [evC, ← h.1]
  | .region _ ops draw, ds, ds', s, r, cs, h, hc => by
    simp only [evA] at h
    simp only [evC]
    split at h
    · rename_i hd
      rw [if_pos hd]
      split at h
      · rename_i es s1 ds1 c1 h1
        split at h
        · rename_i ha
          simp only [Option.some.injEq, Prod.mk.injEq] at h
          obtain ⟨rfl, _, rfl⟩ := h
          rw [effsA_ok h1 hc]
          simp only
          rw [if_pos ha]
        · cases h
      · cases h
    · rename_i hd
      rw [if_neg hd]
      simp only [Option.map_eq_some_iff, Prod.mk.injEq] at h
      obtain ⟨⟨s1, ds1, c1⟩, h1, rfl, rfl, rfl⟩ := h
      rw [runA_ok h1 hc]
      rfl
  | .seq a b, ds, ds', s, r, cs, h, hc => by
    simp only [evA] at h
    simp only [evC]
    split at h
    · rename_i s1 ds1 c1 h1
      split at h
      · rename_i r2 ds2 c2 h2
        simp only [Option.some.injEq, Prod.mk.injEq] at h
        obtain ⟨rfl, _, rfl⟩ := h
        obtain ⟨q1, q2⟩ := AllP_app hc
        rw [evA_ok a _ _ _ _ _ h1 q1]
        exact evA_ok b _ _ _ _ _ h2 q2
      · cases h
    · rename_i hne
      rw [evA_ok a _ _ _ _ _ h hc]
      obtain ⟨e, s1⟩ := r
      cases e with
      | normal => exact absurd h (hne _ _ _)
      | exit id => rfl
      | ret => rfl
  | .cond c a b, ds, ds', s, r, cs, h, hc => by
    simp only [evA] at h
    simp only [evC]
    split at h
    · rename_i tm1 ds1 c1 h1
      simp only [Option.map_eq_some_iff, Prod.mk.injEq] at h
      obtain ⟨⟨r2, ds2, c2⟩, h2, rfl, _, rfl⟩ := h
      obtain ⟨q1, q2⟩ := AllP_app hc
      obtain ⟨k1, rfl⟩ := condA_ok h1 q1
      rw [k1]
      exact evA_ok a _ _ _ _ _ h2 q2
    · rename_i tm1 ds1 c1 h1
      simp only [Option.map_eq_some_iff, Prod.mk.injEq] at h
      obtain ⟨⟨r2, ds2, c2⟩, h2, rfl, _, rfl⟩ := h
      obtain ⟨q1, q2⟩ := AllP_app hc
      obtain ⟨k1, rfl⟩ := condA_ok h1 q1
      rw [k1]
      exact evA_ok b _ _ _ _ _ h2 q2
    · cases h
  | .block id c, ds, ds', s, r, cs, h, hc => by
    simp only [evA] at h
    simp only [evC]
    split at h
    · rename_i id' s1 x h1
      obtain ⟨ds1, c1⟩ := x
      split at h
      · rename_i hid
        simp only [Option.some.injEq, Prod.mk.injEq] at h
        obtain ⟨rfl, rfl, rfl⟩ := h
        rw [evA_ok c _ _ _ _ _ h1 hc]
        simp only
        rw [if_pos hid]
      · rename_i hid
        simp only [Option.some.injEq, Prod.mk.injEq] at h
        obtain ⟨rfl, rfl, rfl⟩ := h
        rw [evA_ok c _ _ _ _ _ h1 hc]
        simp only
        rw [if_neg hid]
    · rename_i hne
      rw [evA_ok c _ _ _ _ _ h hc]
      obtain ⟨e, s1⟩ := r
      cases e with
      | normal => rfl
      | exit id' => exact absurd h (hne _ _ _)
      | ret => rfl
  | .loop c, ds, ds', s, r, cs, h, hc => by
    simp only [evA] at h
    simp only [evC]
    exact iterA_ok (fun ds s r ds' cs h hc => evA_ok c ds ds' s r cs h hc) _ _ _ _ _ _ h hc
  | .rangeFunc .., ds, ds', s, r, cs, h, _ => by simp [evA] at h
  | .scope _, ds, ds', s, r, cs, h, _ => by simp [evA] at h
  | .goto _, ds, ds', s, r, cs, h, _ => by simp [evA] at h
end
end Go.Vi
