/- Vi, part 25: pieces of code by the kernel, from a told state to a told state; summaries of functions. -/
import Derived.Test.YtbiifkfehfapkaaDoorVi24
namespace Go.Vi

/-- A value under other names, computed. -/
def rnF (f : Id → Option Id) : Nat → V → V
  | 0, _ => .junk
  | d + 1, v =>
    match v with
    | .lp a off => match f a with | some b => .lp b off | none => .junk
    | .sl a off n e x => match f a with | some b => .sl b off n e x | none => .junk
    | .agg l => .agg (l.map (rnF f d))
    | .tup l => .tup (l.map (rnF f d))
    | .fn g l => .fn g (l.map (rnF f d))
    | v => v

def rnOb (f : Id → Option Id) (d : Nat) (raw : Bool) (o : Ob) : Ob :=
  if raw then o else { ty := o.ty, cells := o.cells.map (rnF f d), fz := o.fz }

/-- What is told of a run. -/
def probe (f : Id → Option Id) (d : Nat) (ts : List Nat) (ids : List (Id × Bool)) : Option ((Ex × St) × Ds × List Prop) → Option (Ex × Nat × List V × List (Option Ob) × List Prop)
  | some ((e, s), [], cs) => some (e, s.n, ts.map fun t => rnF f d (s.tm t), ids.map fun p => (s.ob p.1).map (rnOb f d p.2), cs)
  | _ => none

theorem newOf_old {G : List (Id × Id)} {X : List (Nat × Nat)} (hG : fitG G X = true) {a b : Id} (h : newOf G a = some b) : oldOf G b = some a := by
  simp only [fitG, Bool.and_eq_true, List.all_eq_true] at hG
  obtain ⟨⟨⟨g1, g2⟩, g3⟩, g4⟩ := hG
  cases a with
  | ret k => simp [newOf] at h
  | bor k => simp only [newOf, Option.some.injEq] at h; subst h; rfl
  | own t k =>
    simp only [newOf] at h
    have hm := getI_mem h
    simp only [List.mem_map, Prod.mk.injEq] at hm
    obtain ⟨⟨x, y⟩, hm, rfl, rfl⟩ := hm
    have := g1 _ hm
    simp only at hm ⊢
    cases x with
    | own t' k' => simp only [oldOf]; exact getI_of_mem g2 hm
    | bor k' => simp [isOwnB] at this
    | ret k' => simp [isOwnB] at this

theorem rnF_RN {G : List (Id × Id)} {X : List (Nat × Nat)} (hG : fitG G X = true) : ∀ (d : Nat) (v : V), RN (oldOf G) v (rnF (newOf G) d v)
  | 0, v => .junk v
  | d + 1, v => by
    cases v with
    | lp a off =>
      simp only [rnF]
      split
      · rename_i b hb; exact .lp _ _ _ (newOf_old hG hb)
      · exact .junk _
    | sl a off n e x =>
      simp only [rnF]
      split
      · rename_i b hb; exact .sl _ _ _ _ _ _ (newOf_old hG hb)
      · exact .junk _
    | agg l =>
      simp only [rnF]
      refine .agg _ _ (by simp) fun k y y' hy hy' => ?_
      simp only [List.getElem?_map, hy, Option.map_some, Option.some.injEq] at hy'
      subst hy'
      exact rnF_RN hG d y
    | tup l =>
      simp only [rnF]
      refine .tup _ _ (by simp) fun k y y' hy hy' => ?_
      simp only [List.getElem?_map, hy, Option.map_some, Option.some.injEq] at hy'
      subst hy'
      exact rnF_RN hG d y
    | fn g l =>
      simp only [rnF]
      refine .fn _ _ _ (by simp) fun k y y' hy hy' => ?_
      simp only [List.getElem?_map, hy, Option.map_some, Option.some.injEq] at hy'
      subst hy'
      exact rnF_RN hG d y
    | junk => exact .junk _
    | int k n => exact .nv _ rfl
    | bool b => exact .nv _ rfl
    | str s => exact .nv _ rfl
    | nl => exact .nl
    | e0 => exact .e0
    | fs l => exact .nv _ rfl
    | fp c o => exact .nv _ rfl

/-- An object that is told: its new name, its old one, whether its cells are kept as they are, its new form. -/
abbrev OS := List (Id × Id × Bool × Ob)

def rawOk : OS → Prop
  | [] => True
  | q :: l => (if q.2.2.1 then V.nv.nvs q.2.2.2.cells = true else True) ∧ rawOk l

theorem rawOk_mem : ∀ {l : OS}, rawOk l → ∀ q ∈ l, q.2.2.1 = true → V.nv.nvs q.2.2.2.cells = true
  | [], _, q, h, _ => by simp at h
  | p :: l, h, q, hq, hr => by
    obtain ⟨h1, h2⟩ := h
    simp only [List.mem_cons] at hq
    rcases hq with rfl | hq
    · rw [if_pos hr] at h1; exact h1
    · exact rawOk_mem h2 q hq hr

section
variable {P : Program} {E : Env} {C : Oracle}

theorem tri_probe (hmix : P.follows .mixedOrders = true) (hC : OkC P E C) {fuel d n : Nat} {c : Code} {ds : Ds} {s : St} {e : Ex} {cs : List Prop} (G : List (Id × Id)) (X : List (Nat × Nat)) (T : List (Nat × V)) (O : OS)
    (h : probe (newOf G) d (T.map (·.1)) (O.map fun q => (q.2.1, q.2.2.1)) (evA P E C fuel c ds s) = some (e, n, T.map (·.2), O.map (fun q => some q.2.2.2), cs))
    (hG : (fitG G X && O.all fun q => decide (oldOf G q.1 = some q.2.1)) = true) (hraw : rawOk O) (hc : AllP cs) : Tri P E c s e (mkSt n T X (O.map fun q => (q.1, q.2.2.2))) := by
  rw [Bool.and_eq_true] at hG
  obtain ⟨hG, hO⟩ := hG
  unfold probe at h
  split at h
  · rename_i e' s' cs' hev
    simp only [Option.some.injEq, Prod.mk.injEq] at h
    obtain ⟨rfl, hn, ht, ho, rfl⟩ := h
    refine (Tri.ev hmix hC (evA_ok c _ _ _ _ _ hev hc)).post (weak_mk hn hG (fun t v hm => ?_) (fun b o' hm => ?_))
    · obtain ⟨i, hi, e⟩ := List.getElem_of_mem hm
      have h1 : (T.map (·.1))[i]? = some t := by simp [hi, e]
      have h2 : (T.map (·.2))[i]? = some v := by simp [hi, e]
      rw [← ht] at h2
      simp only [List.getElem?_map] at h1 h2
      have h3 : T[i]? = some (t, v) := by rw [List.getElem?_eq_getElem hi, e]
      rw [h3] at h2
      simp only [Option.map_some, Option.some.injEq] at h2
      rw [← h2]
      exact rnF_RN hG d _
    · obtain ⟨q, hq, e⟩ := List.mem_map.1 hm
      simp only [Prod.mk.injEq] at e
      obtain ⟨rfl, rfl⟩ := e
      have hold := of_decide_eq_true (List.all_eq_true.1 hO q hq)
      obtain ⟨i, hi, e⟩ := List.getElem_of_mem hq
      have h3 : O[i]? = some q := by rw [List.getElem?_eq_getElem hi, e]
      have h2 : (O.map fun q => some q.2.2.2)[i]? = some (some q.2.2.2) := by rw [List.getElem?_map, h3]; rfl
      rw [← ho] at h2
      simp only [List.getElem?_map, h3, Option.map_some, Option.some.injEq, Option.map_eq_some_iff] at h2
      obtain ⟨o, ho1, ho2⟩ := h2
      refine ⟨q.2.1, o, hold, ho1, ?_⟩
      cases hr : q.2.2.1 with
      | true =>
        rw [hr] at ho2
        simp only [rnOb, if_true] at ho2
        subst ho2
        refine ⟨rfl, rfl, rfl, fun k y y' hy hy' => ?_⟩
        rw [hy] at hy'
        obtain rfl := Option.some.inj hy'
        exact .nv _ (nvs_get (rawOk_mem hraw q hq hr) _ _ hy)
      | false =>
        rw [hr] at ho2
        simp only [rnOb, Bool.false_eq_true, if_false] at ho2
        rw [← ho2]
        refine ⟨rfl, rfl, by simp, fun k y y' hy hy' => ?_⟩
        simp only [List.getElem?_map, hy, Option.map_some, Option.some.injEq] at hy'
        subst hy'
        exact rnF_RN hG d _
  · cases h

/-- A body with decisions. -/
def bodyA (P : Program) (E : Env) (C : Oracle) (fuel : Nat) (ds : Ds) (f : FuncId) (args : List V) (bo : List Ob) : Option ((V × List Ob × List Ob) × List Prop) :=
  match P.funcs[f]? with
  | some fn =>
    match fn.body with
    | some c =>
      match evA P E C fuel c ds (start fn args bo) with
      | some ((.normal, s), [], cs) | some ((.ret, s), [], cs) => ((pack P (E.ownR f) fn bo.length s).run s.ob).map fun x => (x.1, cs)
      | _ => none
    | none => none
  | none => none

theorem bodyA_ok {fuel : Nat} {ds : Ds} {f : FuncId} {args : List V} {bo : List Ob} {r : V × List Ob × List Ob} {cs : List Prop} (h : bodyA P E C fuel ds f args bo = some (r, cs)) (hc : AllP cs) : body P E C fuel f args bo = some r := by
  unfold bodyA at h
  unfold body
  split at h
  · rename_i fn hfn
    rw [hfn]
    simp only
    split at h
    · rename_i c hb
      rw [hb]
      simp only
      split at h
      · rename_i s cs' hev
        simp only [Option.map_eq_some_iff, Prod.mk.injEq] at h
        obtain ⟨x, hx, rfl, rfl⟩ := h
        rw [evA_ok c _ _ _ _ _ hev hc]
        simp [hx]
      · rename_i s cs' hev
        simp only [Option.map_eq_some_iff, Prod.mk.injEq] at h
        obtain ⟨x, hx, rfl, rfl⟩ := h
        rw [evA_ok c _ _ _ _ _ hev hc]
        simp [hx]
      · cases h
    · cases h
  · cases h

theorem con_ev (hmix : P.follows .mixedOrders = true) (hC : OkC P E C) {fuel : Nat} {ds : Ds} {f : FuncId} {args : List V} {bo bo' ro : List Ob} {r : V} {cs : List Prop} (h : bodyA P E C fuel ds f args bo = some ((r, bo', ro), cs)) (hc : AllP cs) :
    Con P E f args bo r bo' ro := body_sound hmix hC (bodyA_ok h hc)

theorem con_all (hmix : P.follows .mixedOrders = true) (hC : OkC P E C) {fuel : Nat} {f : FuncId} {args : List V} {bo bo' ro : List Ob} {r : V}
    (h : ∃ r1 bo1 ro1 ds cs, bodyA P E C fuel ds f args bo = some ((r1, bo1, ro1), cs) ∧ AllP cs ∧ (r1 = r ∧ bo1 = bo' ∧ ro1 = ro)) : Con P E f args bo r bo' ro := by
  obtain ⟨_, _, _, ds, cs, h1, h2, rfl, rfl, rfl⟩ := h
  exact con_ev hmix hC h1 h2

/-- A summary: a function of the arguments and of what is lent. -/
abbrev Sum' := List V → List Ob → Option (V × List Ob × List Ob)

def SumOk (P : Program) (E : Env) (f : FuncId) (F : Sum') : Prop := ∀ args bo r bo' ro, F args bo = some (r, bo', ro) → Con P E f args bo r bo' ro

/-- The oracle of a table of summaries. -/
def tabO : List (FuncId × Sum') → Oracle
  | [], _, _, _ => none
  | (k, F) :: l, f, args, bo => if f = k then F args bo else tabO l f args bo

def TabOk (P : Program) (E : Env) : List (FuncId × Sum') → Prop
  | [] => True
  | p :: l => (SumOk P E p.1 p.2 ∧ callOk P p.1 = true) ∧ TabOk P E l

theorem tabO_ok : ∀ {l : List (FuncId × Sum')}, TabOk P E l → OkC P E (tabO l)
  | [], _ => fun f args bo r bo' ro h => by simp [tabO] at h
  | (k, F) :: l, h => fun f args bo r bo' ro hr => by
    obtain ⟨⟨h1, h2⟩, h3⟩ := h
    simp only [tabO] at hr
    split at hr
    · rename_i e; subst e; exact ⟨h1 _ _ _ _ _ hr, h2⟩
    · exact tabO_ok h3 f args bo r bo' ro hr

/-- The table, for the interpreter that also runs bodies. -/
def primT : List (FuncId × Sum') → FuncId → Option (Oracle → List V → List Ob → Option (V × List Ob × List Ob))
  | [], _ => none
  | (k, F) :: l, f => if f = k then some fun _ args bo => F args bo else primT l f

theorem primT_ok : ∀ {l : List (FuncId × Sum')}, TabOk P E l → ∀ f F, primT l f = some F → ∀ C, OkC P E C → ∀ args bo r bo' ro, F C args bo = some (r, bo', ro) → Con P E f args bo r bo' ro
  | [], _, f, F, h => by simp [primT] at h
  | (k, G) :: l, h, f, F, hF => by
    obtain ⟨⟨h1, _⟩, h3⟩ := h
    simp only [primT] at hF
    split at hF
    · rename_i e
      subst e
      obtain rfl := Option.some.inj hF
      intro C _ args bo r bo' ro hr
      exact h1 _ _ _ _ _ hr
    · exact primT_ok h3 f F hF
end
end Go.Vi
