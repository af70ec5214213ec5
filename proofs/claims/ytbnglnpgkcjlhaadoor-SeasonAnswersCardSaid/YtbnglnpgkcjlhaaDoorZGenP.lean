/- The functions of the part 'Gen' do what they are said to do. -/
import Derived.Test.YtbnglnpgkcjlhaaDoorZGenV
import Derived.Test.YtbnglnpgkcjlhaaDoorZSeasonP
set_option linter.unusedVariables false
namespace Go.Proofs.YtbnglnpgkcjlhaaDoor
open Go Go.Vi
set_option maxRecDepth 100000
set_option maxHeartbeats 1000000
theorem Pick_ok : SpecOk Tryd.prog E 28 PickPT := spec (.cons N_ok .nil) (by kernel_rfl) fun args bo Q h => by
  obtain ⟨r, l, rfl, rfl, hr, h1, h2, h⟩ := h
  rw [Pick_vc]
  simp only [View.ls_len]
  exact ⟨r, l.length, rfl, rfl, hr, by omega, by unfold inR; omega, fun v r1 hr1 v1 v2 => ⟨l, rfl, by omega, fun x hx => h x r1 hr1 (List.mem_of_getElem? hx)⟩⟩
theorem Text_ok : SpecOk Tryd.prog E 38 TextPT := spec (.cons N_ok .nil) (by kernel_rfl) fun args bo Q h => by
  obtain ⟨r, l, rfl, rfl, hr, h1, h2, h⟩ := h
  rw [Text_vc]
  simp only [View.ls_len]
  exact ⟨r, l.length, rfl, rfl, hr, by omega, by unfold inR; omega, fun v r1 hr1 v1 v2 => ⟨l, rfl, by omega, fun x hx => h x r1 hr1 (List.mem_of_getElem? hx)⟩⟩
theorem Name_ok : SpecOk Tryd.prog E 35 NamePT := spec (.cons Text_ok .nil) (by kernel_rfl) fun args bo Q h => by
  obtain ⟨r, rfl, rfl, hr, h⟩ := h
  rw [Name_vc]
  exact ⟨r, nameL, rfl, rfl, hr, by decide, by decide, h⟩
theorem Minute_ok : SpecOk Tryd.prog E 10 MinutePT := spec (.cons N_ok (.cons Raw_ok (.cons Mod_ok (.cons Pick_ok .nil)))) (by kernel_rfl) fun args bo Q h => by
  obtain ⟨r, rfl, rfl, hr, h⟩ := h
  rw [Minute_vc]
  refine ⟨r, 6, rfl, rfl, hr, by omega, by unfold inR; omega, fun v r1 hr1 v1 v2 => BIF_e (fun _ => ⟨r1, rfl, rfl, hr1, fun a r2 hr2 ha => ⟨r2, rfl, rfl, hr2, fun b r3 hr3 hb => ⟨_, 52596000, rfl, rfl, wrap_in _, by unfold inR; omega, ?_⟩⟩⟩) (fun _ => BIF_e (fun _ => ⟨r1, [0, 52595999, 20160, 52575839], rfl, rfl, hr1, by decide, by decide, fun a r2 hr2 ha => ?_⟩) (fun _ => ⟨r1, 2000, rfl, rfl, hr1, by omega, by unfold inR; omega, fun a r2 hr2 a1 a2 => ⟨by omega, by omega, h _ r2 hr2 (by omega) (by omega)⟩⟩))⟩
  · rw [if_neg (by omega)]
    exact h _ r3 hr3 (Int.emod_nonneg _ (by omega)) (by have := Int.emod_lt_of_pos (IntKind.i64.wrap (IntKind.i64.wrap (a * 7919) + b)) (show (0 : Int) < 52596000 by omega); omega)
  · simp only [List.mem_cons, List.not_mem_nil, or_false] at ha
    exact h a r2 hr2 (by omega) (by omega)
theorem Near_ok : SpecOk Tryd.prog E 36 NearPT := spec (.cons Range_ok (.cons Pick_ok .nil)) (by kernel_rfl) fun args bo Q h => by
  obtain ⟨r, m, rfl, rfl, hr, m1, m2, h⟩ := h
  rw [Near_vc]
  refine ⟨r, -600, 600, rfl, rfl, hr, by omega, by omega, by omega, fun a r1 hr1 a1 a2 => ⟨r1, -20159, 20159, rfl, rfl, hr1, by omega, by omega, by omega, fun b r2 hr2 b1 b2 => ⟨r2, [0, a, b], rfl, rfl, hr2, by show 1 ≤ 3; omega, by show 3 ≤ 1000000; omega, fun v r3 hr3 hv => ?_⟩⟩⟩
  simp only [List.mem_cons, List.not_mem_nil, or_false] at hv
  refine ⟨by omega, h _ r3 hr3 ?_ ?_⟩
  · repeat' split
    all_goals omega
  · repeat' split
    all_goals omega
theorem DPlace_ok : SpecOk Tryd.prog E 24 DPlacePT := spec (.cons N_ok (.cons RNormal_ok .nil)) (by kernel_rfl) fun args bo Q h => by
  obtain ⟨r, rfl, rfl, hr, h⟩ := h
  rw [DPlace_vc]
  refine ⟨r, 20, rfl, rfl, hr, by omega, by unfold inR; omega, fun f r1 hr1 f1 f2 => ⟨r1, 841, rfl, rfl, hr1, by omega, by unfold inR; omega, fun a r2 hr2 a1 a2 => ⟨r2, 4, rfl, rfl, hr2, by omega, by unfold inR; omega, fun k r3 hr3 k1 k2 => ?_⟩⟩⟩
  refine ⟨fun _ x => x.1 = f ∧ 0 ≤ x.2.1 ∧ x.2.1 ≤ 840 ∧ x.2.2.ok, BIF_e (fun _ => ⟨r3, 9, rfl, rfl, hr3, by omega, by unfold inR; omega, fun n r4 hr4 n1 n2 => ⟨by omega, (f, 105 * n, r4), ⟨rfl, by dsimp only; omega, by dsimp only; omega, hr4⟩, rfl, rfl, rfl, trivial⟩⟩) (fun _ => BIF_e (fun _ => ⟨r3, 5, rfl, rfl, hr3, by omega, by unfold inR; omega, fun n r4 hr4 n1 n2 => ⟨by omega, (f, 210 * n, r4), ⟨rfl, by dsimp only; omega, by dsimp only; omega, hr4⟩, rfl, rfl, rfl, trivial⟩⟩) (fun _ => ⟨(f, a, r3), ⟨rfl, a1, by dsimp only; omega, hr3⟩, rfl, rfl, rfl, trivial⟩)), ?_⟩
  rintro ⟨f', a, r4⟩ hI
  dsimp only at hI ⊢
  obtain ⟨rfl, a1, a2, hr4⟩ := hI
  refine ⟨by omega, by omega, r4, 840 - a + 1, rfl, rfl, hr4, by omega, by unfold inR; omega, fun b r5 hr5 b1 b2 => ⟨r5, 3, rfl, rfl, hr5, by omega, by unfold inR; omega, fun q r6 hr6 q1 q2 => BIF_e (fun _ => ?_) (fun _ => ⟨by omega, by omega, ⟨f', a, b, 840 - a - b⟩, rfl, rfl, h _ r6 hr6 (nrm_isNF (okP_mk f1 f2 a1 a2 b1 (by omega)))⟩)⟩⟩
  rw [mod_t b1]
  exact ⟨by omega, by omega, by omega, ⟨f', a, b - b % 105, 840 - a - (b - b % 105)⟩, rfl, rfl, h _ r6 hr6 (nrm_isNF (okP_mk f1 f2 a1 a2 (by omega) (by omega)))⟩
theorem RSome_ok : SpecOk Tryd.prog E 49 RSomePT := spec (.cons RDescribe_ok (.cons Range_ok (.cons N_ok (.cons Pick_ok .nil)))) (by kernel_rfl) fun args bo Q h => by
  obtain ⟨r, c, rfl, rfl, hr, c1, c2, h⟩ := h
  rw [RSome_vc]
  have db := dsc_b c
  have dz := dsc_z c1 c2
  have mb := mid_bnd c1 c2
  refine ⟨c, rfl, rfl, fun s d => ⟨r, (dscF c).1.x, (dscF c).1.y, rfl, rfl, hr, by omega, by omega, by omega, fun v r1 hr1 v1 v2 => ⟨r1, 5, rfl, rfl, hr1, by omega, by unfold inR; omega, fun k r2 hr2 k1 k2 => ?_⟩⟩⟩
  rw [wrap64 (x := ((dscF c).1.x + (dscF c).1.y).tdiv 2) (by omega) (by omega)]
  have mid : ∃ (r3 : Rdr) (a1 b1 : Int), [V.lp (Id.bor 0) 0, V.int .i64 (-40), V.int .i64 40] = [src, V.int .i64 a1, V.int .i64 b1] ∧ [rob r2] = [rob r3] ∧ r3.ok ∧ -1000000000000 ≤ a1 ∧ a1 ≤ b1 ∧ b1 ≤ 1000000000000 ∧ ∀ (v2 : Int) (r'2 : Rdr), r'2.ok → a1 ≤ v2 → v2 ≤ b1 → (-9223372036854775808 ≤ ((dscF c).1.x + (dscF c).1.y).tdiv 2 + v2 ∧ ((dscF c).1.x + (dscF c).1.y).tdiv 2 + v2 ≤ 9223372036854775807) ∧ ∃ (x : Int × Int × Rdr), (x.1 = c ∧ chkF ⟨c, x.2.1⟩ = 0 ∧ x.2.2.ok) ∧ ([] : List V) = [] ∧ [V.int .i64 c, V.int .i64 (((dscF c).1.x + (dscF c).1.y).tdiv 2 + v2)] = [V.int .i64 x.1, V.int .i64 x.2.1] ∧ [V.fs (vwInt.ls r'2.l), V.int .i64 r'2.p] = [V.fs (vwInt.ls x.2.2.l), V.int .i64 x.2.2.p] ∧ True :=
    ⟨r2, -40, 40, rfl, rfl, hr2, by omega, by omega, by omega, fun w r3 hr3 w1 w2 => ⟨by omega, (c, ((dscF c).1.x + (dscF c).1.y).tdiv 2 + w, r3), ⟨rfl, chk_0.2 ⟨dz, (mid_ok c1 c2 w1 w2).1, (mid_ok c1 c2 w1 w2).2⟩, hr3⟩, rfl, rfl, rfl, trivial⟩⟩
  refine ⟨fun _ x => x.1 = c ∧ chkF ⟨c, x.2.1⟩ = 0 ∧ x.2.2.ok, BIF_e (fun _ => ⟨r2, [(dscF c).1.x, (dscF c).1.y], rfl, rfl, hr2, by show 1 ≤ 2; omega, by show 2 ≤ 1000000; omega, fun w r3 hr3 hw => ⟨(c, w, r3), ⟨rfl, ?_, hr3⟩, rfl, rfl, rfl, trivial⟩⟩) (fun _ => BIF_e (fun _ => ⟨by omega, mid⟩) (fun _ => BIF_e (fun _ => ⟨by omega, mid⟩) (fun _ => ⟨(c, v, r2), ⟨rfl, chk_0.2 ⟨dz, v1, v2⟩, hr2⟩, rfl, rfl, rfl, trivial⟩))), ?_⟩
  · simp only [List.mem_cons, List.not_mem_nil, or_false] at hw
    exact chk_0.2 ⟨dz, by dsimp only; omega, by dsimp only; omega⟩
  · rintro ⟨c', v', r3⟩ hI
    dsimp only at hI ⊢
    obtain ⟨rfl, hc, hr3⟩ := hI
    exact h ⟨c', v'⟩ r3 hr3 rfl hc
theorem RList_ok : SpecOk Tryd.prog E 37 RListPT := spec (.cons N_ok (.cons RSome_ok .nil)) (by kernel_rfl) fun args bo Q h => by
  obtain ⟨r, rfl, rfl, hr, h⟩ := h
  rw [RList_vc]
  have nv := fun l => (vws_ok 55 vwI2 rfl).fl_nvs l
  refine ⟨fun _ x => 1 ≤ x.1 ∧ x.1 ≤ 12 ∧ valF x.2.1 = 0 ∧ (∀ y ∈ x.2.1, y.x < x.1) ∧ (x.2.1.length : Int) < x.1 ∧ x.2.2.ok, fun _ x => (12 - x.1).toNat, ⟨(1, [], r), ⟨by dsimp only; omega, by dsimp only; omega, rfl, fun y hy => by simp at hy, by simp, hr⟩, rfl, rfl, rfl, trivial⟩, ?_⟩
  rintro ⟨c, l, q⟩ hI
  dsimp only at hI ⊢
  obtain ⟨c1, c2, hv, hl, hlen, hq⟩ := hI
  refine BIF_d (fun e => ⟨q, 3, rfl, rfl, hq, by omega, by unfold inR; omega, fun k q1 hq1 k1 k2 => BIF_e (fun _ => ⟨q1, c, rfl, rfl, hq1, c1, e, fun x q2 hq2 hx1 hx2 => ⟨x, rfl, l, rfl, rfl, by simp only [List.length_cons, List.length_nil]; omega, by omega, (c + 1, l ++ [x], q2), ⟨⟨by dsimp only; omega, by dsimp only; omega, val_app hv (fun y hy => by rw [hx1]; exact hl y hy) hx2, fun y hy => ?_, by simp; omega, hq2⟩, by dsimp only; omega⟩, rfl, rfl, nv _, rfl, trivial⟩⟩) (fun _ => ⟨by omega, (c + 1, l, q1), ⟨⟨by dsimp only; omega, by dsimp only; omega, hv, fun y hy => by have := hl y hy; dsimp only; omega, by dsimp only; omega, hq1⟩, by dsimp only; omega⟩, rfl, rfl, nv _, rfl, trivial⟩)⟩) (fun e => ⟨l, rfl, rfl, rfl, h l q hq hv (by omega)⟩)
  rcases List.mem_append.1 hy with hy | hy
  · have := hl y hy; dsimp only; omega
  · simp at hy; subst hy; dsimp only; omega
theorem Report_ok : SpecOk Tryd.prog E 15 ReportPT := spec (.cons Range_ok (.cons Name_ok (.cons Near_ok (.cons RList_ok (.cons DPlace_ok .nil))))) (by kernel_rfl) fun args bo Q h => by
  obtain ⟨r, m, rfl, rfl, hr, m1, m2, h⟩ := h
  rw [Report_vc]
  exact ⟨r, 1, 3, rfl, rfl, hr, by omega, by omega, by omega, fun k r1 hr1 k1 k2 => ⟨r1, rfl, rfl, hr1, fun nm r2 hr2 hn => ⟨r2, m, rfl, rfl, hr2, m1, m2, fun t r3 hr3 t1 t2 => ⟨r3, rfl, rfl, hr3, fun l r4 hr4 l1 l2 => BIF_ne (fun e => ⟨r4, rfl, rfl, hr4, fun p r5 hr5 hp => h ⟨k, nm, t, p, l⟩ r5 hr5 ⟨k1, k2, hn, t1, t2, l1, l2, fun e' => absurd e' e, fun _ => hp⟩⟩) (fun e => h ⟨k, nm, t, ⟨0, 0, 0, 0⟩, l⟩ r4 hr4 ⟨k1, k2, hn, t1, t2, l1, l2, fun _ => rfl, fun e' => absurd e e'⟩)⟩⟩⟩⟩
theorem Bent_ok : SpecOk Tryd.prog E 16 BentPT := spec (.cons N_ok (.cons Range_ok (.cons Text_ok (.cons Pick_ok (.cons DPlace_ok .nil))))) (by kernel_rfl) fun args bo Q h => by
  obtain ⟨r, x, rfl, rfl, hr, hx, x1, x2, h⟩ := h
  rw [Bent_vc]
  refine ⟨x.rd, rfl, by omega, r, 8, rfl, rfl, hr, by omega, by unfold inR; omega, fun v r1 hr1 v1 v2 => ?_⟩
  refine BIF_e (fun _ => ⟨r1, -1, 4, rfl, rfl, hr1, by omega, by omega, by omega, fun a r2 hr2 _ _ => ⟨x.rd, rfl, rfl, rfl, h ⟨a, x.name, x.time, x.pl, x.rd⟩ r2 hr2 (by dsimp only; omega)⟩⟩) fun _ => ?_
  refine BIF_e (fun _ => ⟨r1, [⟨#[]⟩, ⟨#[65, 76, 80, 72]⟩, ⟨#[97, 108, 112, 104, 97]⟩, ⟨#[65, 76, 80, 72, 65, 49]⟩, ⟨#[65, 76, 32, 80, 72]⟩, ⟨#[65, 76, 80, 72, 65]⟩], rfl, rfl, hr1, by decide, by decide, fun a r2 hr2 _ => ⟨x.rd, rfl, rfl, rfl, h ⟨x.kind, a, x.time, x.pl, x.rd⟩ r2 hr2 (by dsimp only; omega)⟩⟩) fun _ => ?_
  refine BIF_e (fun _ => ⟨r1, [-1, 52596000, 0], rfl, rfl, hr1, by decide, by decide, fun a r2 hr2 _ => ⟨x.rd, rfl, rfl, rfl, h ⟨x.kind, x.name, a, x.pl, x.rd⟩ r2 hr2 (by dsimp only; omega)⟩⟩) fun _ => ?_
  refine BIF_e (fun _ => ⟨r1, rfl, rfl, hr1, fun p r2 hr2 _ => ⟨x.rd, rfl, rfl, rfl, h ⟨x.kind, x.name, x.time, p, x.rd⟩ r2 hr2 (by dsimp only; omega)⟩⟩) fun _ => ?_
  refine BIF_e (fun _ => ⟨r1, -1, 20, rfl, rfl, hr1, by omega, by omega, by omega, fun a r2 hr2 _ _ => ⟨r2, 841, rfl, rfl, hr2, by omega, by unfold inR; omega, fun b r3 hr3 _ _ => ⟨r3, 200, rfl, rfl, hr3, by omega, by unfold inR; omega, fun c r4 hr4 _ _ => ⟨x.rd, rfl, rfl, rfl, h ⟨x.kind, x.name, x.time, ⟨a, b, c, 0⟩, x.rd⟩ r4 hr4 (by dsimp only; omega)⟩⟩⟩⟩) fun _ => ?_
  refine BIF_e (fun _ => ⟨r1, 0, 12, rfl, rfl, hr1, by omega, by omega, by omega, fun a r2 hr2 _ _ => ⟨r2, 9000, rfl, rfl, hr2, by omega, by unfold inR; omega, fun b r3 hr3 _ _ => ⟨⟨a, b⟩, rfl, x.rd, rfl, rfl, by simp only [List.length_cons, List.length_nil]; omega, x.rd ++ [(⟨a, b⟩ : I2)], rfl, rfl, rfl, h ⟨x.kind, x.name, x.time, x.pl, x.rd ++ [(⟨a, b⟩ : I2)]⟩ r3 hr3 (by simp)⟩⟩⟩) fun _ => ?_
  refine BIF_e (fun _ => BIF_d (fun e => ⟨r1, x.rd.length, rfl, rfl, hr1, by omega, by unfold inR; omega, fun i r2 hr2 i1 i2 => ⟨r2, [-1001, 0, 99999], rfl, rfl, hr2, by decide, by decide, fun b r3 hr3 _ => ⟨by omega, x.rd, i.toNat, rfl, by omega, by omega, fun y hy => ⟨⟨y.x, b⟩, rfl, x.rd.set i.toNat ⟨y.x, b⟩, rfl, by rw [List.length_set], rfl, h ⟨x.kind, x.name, x.time, x.pl, x.rd.set i.toNat ⟨y.x, b⟩⟩ r3 hr3 (by simp)⟩⟩⟩⟩) (fun e => ⟨x.rd, rfl, rfl, rfl, h x r1 hr1 (by omega)⟩)) fun _ => ?_
  exact ⟨by omega, x.rd, rfl, rfl, rfl, h ⟨x.kind, x.name, x.time, ⟨x.pl.f, x.pl.a, x.pl.b, x.pl.c + 1⟩, x.rd⟩ r1 hr1 (by dsimp only; omega)⟩
theorem Small_ok : SpecOk Tryd.prog E 7 SmallPT := spec .nil (by kernel_rfl) fun args bo Q h => by
  obtain ⟨x, rfl, rfl, h⟩ := h
  rw [Small_vc]
  simp only [View.ls_len]
  refine BIF_d (fun e => Qc (b1 ?_) h) (fun e => Qc (b1 ?_) h)
  · simp only [Bool.and_eq_true, decide_eq_true_eq]; omega
  · simp only [Bool.and_eq_true, decide_eq_true_eq, Bool.false_eq_true, false_iff]; omega
theorem Placed_ok : SpecOk Tryd.prog E 11 PlacedPT := spec (.cons DPlace_ok (.cons N_ok (.cons Report_ok .nil))) (by kernel_rfl) fun args bo Q h => by
  obtain ⟨r, n, m, rfl, rfl, hr, n1, n2, m1, m2, h⟩ := h
  rw [Placed_vc]
  have nv := fun l => (vws_ok 29 vwRep rfl).fl_nvs l
  refine ⟨r, rfl, rfl, hr, fun p r1 hr1 hp => ⟨by omega, r1, n + 1, rfl, rfl, hr1, by omega, by unfold inR; omega, fun k r2 hr2 k1 k2 => ?_⟩⟩
  refine ⟨fun _ x => 0 ≤ x.1 ∧ (x.2.1.length : Int) + x.1 ≤ 9 ∧ (∀ y ∈ x.2.1, PlOk y) ∧ x.2.2.ok, fun _ x => x.1.toNat, ⟨(k, [], r2), ⟨k1, by simp; omega, fun y hy => by simp at hy, hr2⟩, rfl, rfl, rfl, trivial⟩, ?_⟩
  rintro ⟨i, l, q⟩ hI
  dsimp only at hI ⊢
  obtain ⟨i1, hlen, hl, hq⟩ := hI
  have app : ∀ {y : Rep}, PlOk y → ∀ z ∈ l ++ [y], PlOk z := by
    intro y hy z hz
    rcases List.mem_append.1 hz with hz | hz
    · exact hl z hz
    · simp at hz; subst hz; exact hy
  refine BIF_d (fun e => ⟨q, m, rfl, rfl, hq, m1, m2, fun x q1 hq1 hx => ⟨q1, rfl, rfl, hq1, fun p1 q2 hq2 hp1 => ⟨q2, 2, rfl, rfl, hq2, by omega, by unfold inR; omega, fun b q3 hq3 _ _ => ?_⟩⟩⟩) (fun e => ⟨l, rfl, rfl, rfl, h l q hq hl (by omega)⟩)
  refine BIF_e (fun _ => ?_) (fun _ => ?_)
  · exact ⟨⟨x.kind, x.name, x.time, p, x.rd⟩, rfl, l, rfl, rfl, by simp only [List.length_cons, List.length_nil]; omega, by omega, (i - 1, l ++ [⟨x.kind, x.name, x.time, p, x.rd⟩], q3), ⟨⟨by dsimp only; omega, by simp; omega, app ⟨hx.t1, hx.t2, hx.rd, hx.len, hp⟩, hq3⟩, by dsimp only; omega⟩, rfl, rfl, nv _, rfl, trivial⟩
  · exact ⟨⟨x.kind, x.name, x.time, p1, x.rd⟩, rfl, l, rfl, rfl, by simp only [List.length_cons, List.length_nil]; omega, by omega, (i - 1, l ++ [⟨x.kind, x.name, x.time, p1, x.rd⟩], q3), ⟨⟨by dsimp only; omega, by simp; omega, app ⟨hx.t1, hx.t2, hx.rd, hx.len, hp1⟩, hq3⟩, by dsimp only; omega⟩, rfl, rfl, nv _, rfl, trivial⟩
theorem Floor_ok : SpecOk Tryd.prog E 34 FloorPT := spec .nil (by kernel_rfl) fun args bo Q h => by
  obtain ⟨a, b, rfl, rfl, b1, b2, a1, a2, h⟩ := h
  rw [Floor_vc]
  obtain ⟨e1, e2⟩ := floor_ok (a := a) (b := b) (by omega)
  have hb := div_bnd (a := a) (b := b) (by omega)
  refine ⟨by omega, ?_, by omega, BIF_d (fun e => ?_) (fun e => ?_)⟩
  · by_cases e : a.tmod b < 0
    · have := e1 e; omega
    · have := e2 e; omega
  · have := e1 e
    refine ⟨by omega, ?_⟩
    rw [show a.tdiv b - 1 = a / b by omega]
    exact h
  · rw [e2 e]; exact h
end Go.Proofs.YtbnglnpgkcjlhaaDoor
