/- The functions of the part 'Learn' do what they are said to do. -/
import Derived.Test.YtbnglnpgkcjlhaaDoorZLearnV
import Derived.Test.YtbnglnpgkcjlhaaDoorZGenP
set_option linter.unusedVariables false
namespace Go.Proofs.YtbnglnpgkcjlhaaDoor
open Go Go.Vi
set_option maxRecDepth 100000
set_option maxHeartbeats 1000000
theorem Learn_ok : SpecOk Tryd.prog E 12 LearnPT := spec (.cons RIsNormal_ok (.cons RIn1_ok (.cons RValidate_ok (.cons RDate_ok (.cons RFind_ok (.cons Floor_ok .nil)))))) (by kernel_rfl) fun args bo Q h => by
  obtain ⟨l, rfl, rfl, hl, h9, h⟩ := h
  rw [Learn_vc]
  simp only [View.ls_len]
  have nn := fun c => (vws_ok 43 vwNrm rfl).fl_nvs c
  have ni := fun c => (vws_ok 3 vwInt rfl).fl_nvs c
  refine ⟨fun _ _ => True, fun _ i => l.length - i, ⟨0, trivial, rfl, trivial⟩, fun i _ => BIF_d (fun e => ⟨l, rfl, by omega, fun r hr => ?_⟩) (fun _ => ?_)⟩
  · have ok := hl r (List.mem_of_getElem? hr)
    have hd : datE r.time = 0 := by unfold datE; rw [if_pos ⟨ok.t1, ok.t2⟩]
    exact ⟨r.pl, rfl, trivial, BIF_n (fun k => by rw [ok.pl] at k; cases k) (fun _ => ⟨r.time, rfl, trivial, BIF_n (fun k => by rw [hd] at k; cases k) (fun _ => ⟨r.rd, rfl, trivial, by have := ok.len; omega, BIF_ne (fun k => absurd ok.rd k) (fun _ => ⟨by omega, i + 1, ⟨trivial, by dsimp only; omega⟩, by simp, trivial⟩)⟩)⟩)⟩
  refine ⟨fun _ x => 1 ≤ x.1 ∧ x.1 ≤ 12 ∧ LInv l x.1 0 1 x.2, fun _ x => (12 - x.1).toNat, ⟨(1, []), ⟨by dsimp only; omega, by dsimp only; omega, linv_0 hl⟩, rfl, rfl, rfl, trivial⟩, ?_⟩
  rintro ⟨code, c0⟩ hI
  dsimp only at hI ⊢
  obtain ⟨o1, o2, inv⟩ := hI
  have hlen := linv_len hl h9 inv
  refine BIF_d (fun o3 => ?_) (fun o3 => BIF_d (fun k => by omega) (fun _ => ⟨c0, rfl, nn _, ?_⟩))
  rotate_left
  · have : code = 12 := by omega
    subst this
    exact h c0 (linv_end hl h9 inv)
  refine ⟨fun _ x => 0 ≤ x.1 ∧ x.1 ≤ 20 ∧ LInv l code x.1 1 x.2, fun _ x => (20 - x.1).toNat, ⟨(0, c0), ⟨by dsimp only; omega, by dsimp only; omega, inv⟩, rfl, rfl, rfl, nn _, trivial⟩, ?_⟩
  rintro ⟨fa, c1⟩ hI
  dsimp only at hI ⊢
  obtain ⟨f1, f2, inv1⟩ := hI
  refine BIF_d (fun f3 => ?_) (fun f3 => ⟨by omega, (code + 1, c1), ⟨⟨by dsimp only; omega, by dsimp only; omega, ?_⟩, by dsimp only; omega⟩, rfl, rfl, rfl, nn _, trivial⟩)
  rotate_left
  · have : fa = 20 := by omega
    subst this
    exact linv_code hl inv1
  refine ⟨fun _ x => 1 ≤ x.1 ∧ x.1 ≤ 13 ∧ LInv l code fa x.1 x.2, fun _ x => (13 - x.1).toNat, ⟨(1, c1), ⟨by dsimp only; omega, by dsimp only; omega, inv1⟩, rfl, rfl, rfl, nn _, trivial⟩, ?_⟩
  rintro ⟨mo, c2⟩ hI
  dsimp only at hI ⊢
  obtain ⟨m1, m2, inv2⟩ := hI
  have hlen2 := linv_len hl h9 inv2
  refine BIF_d (fun m3 => ?_) (fun m3 => ⟨by omega, (fa + 1, c2), ⟨⟨by dsimp only; omega, by dsimp only; omega, ?_⟩, by dsimp only; omega⟩, rfl, rfl, rfl, nn _, trivial⟩)
  rotate_left
  · have : mo = 13 := by omega
    subst this
    exact linv_face hl inv2
  have kb := kvs_bnd (code := code) (fa := fa) (mo := mo) hl
  have kl := kvs_len code fa mo l
  refine ⟨fun _ x => x.2 = kvs code fa mo l ∧ x.1 = x.2.sum, ?_, ?_⟩
  · refine ⟨fun _ x => x.1 ≤ l.length ∧ x.2.2 = kvs code fa mo (l.take x.1) ∧ x.2.1 = x.2.2.sum, fun _ x => l.length - x.1, ⟨(0, 0, []), ⟨Nat.zero_le _, rfl, rfl⟩, rfl, rfl, nn _, trivial⟩, ?_⟩
    rintro ⟨i, s, vs⟩ hI
    dsimp only at hI ⊢
    obtain ⟨hi, rfl, rfl⟩ := hI
    refine BIF_d (fun e => ⟨l, rfl, by omega, fun r hr => ⟨r.time, rfl, trivial, fun y d hh mi => ⟨r.rd, code, rfl, trivial, ?_, ?_⟩⟩⟩) (fun e => ?_)
    · have := (hl r (List.mem_of_getElem? hr)).len; omega
    · rw [Int.toNat_natCast] at hr
      have ok := hl r (List.mem_of_getElem? hr)
      have ks := kvs_take (code := code) (fa := fa) (mo := mo) hr
      have kl2 := kvs_len code fa mo (l.take i)
      have sb := sum_bnd (l := kvs code fa mo (l.take i)) (kvs_bnd (code := code) (fa := fa) (mo := mo) fun r hr => hl r (List.mem_of_mem_take hr))
      have fb := find_bnd ok.rd code
      rw [List.length_take] at kl2
      have skip : kvOk code fa mo r = false → ∃ x' : Nat × Int × List Int, ((x'.1 ≤ l.length ∧ x'.2.2 = kvs code fa mo (l.take x'.1) ∧ x'.2.1 = x'.2.2.sum) ∧ l.length - x'.1 < l.length - i) ∧ [V.int .i64 ((i : Int) + 1), V.int .i64 (kvs code fa mo (l.take i)).sum, V.sl (.own 95 0) 0 (kvs code fa mo (l.take i)).length 3 false] = [V.int .i64 (x'.1 : Int), V.int .i64 x'.2.1, V.sl (.own 95 0) 0 x'.2.2.length 3 false] ∧ vwInt.fl (kvs code fa mo (l.take i)) = vwInt.fl x'.2.2 ∧ V.nv.nvs (vwInt.fl x'.2.2) = true ∧ V.nv.nvs (vwNrm.fl c2) = true ∧ True := by
        intro hk
        rw [hk, if_neg (by simp), List.append_nil] at ks
        exact ⟨(i + 1, (kvs code fa mo (l.take i)).sum, kvs code fa mo (l.take i)), ⟨⟨by dsimp only; omega, ks.symm, rfl⟩, by dsimp only; omega⟩, by simp, rfl, ni _, nn _, trivial⟩
      refine BIF_in (fun k1 => BIF_e (fun k2 => BIF_e (fun k3 => ?_) (fun k => ⟨by omega, skip ?_⟩)) (fun k => ⟨by omega, skip ?_⟩)) (fun k => ⟨by omega, skip ?_⟩)
      · have hk : kvOk code fa mo r = true := by unfold kvOk; simp [k1, k2, k3]
        rw [hk, if_pos rfl] at ks
        exact ⟨_, rfl, _, rfl, rfl, by simp only [List.length_cons, List.length_nil]; omega, by omega, by omega, (i + 1, (kvs code fa mo (l.take i)).sum + (findF r.rd code).1, kvs code fa mo (l.take i) ++ [(findF r.rd code).1]), ⟨⟨by dsimp only; omega, ks.symm, by simp⟩, by dsimp only; omega⟩, by simp, rfl, ni _, nn _, trivial⟩
      · unfold kvOk; simp [k]
      · unfold kvOk; simp [k]
      · unfold kvOk; simp [k]
    · have : l.length = i := by omega
      subst this
      exact ⟨((kvs code fa mo (l.take l.length)).sum, kvs code fa mo (l.take l.length)), ⟨by rw [List.take_length], rfl⟩, rfl, _, rfl, rfl, rfl, nn _, trivial⟩
  · rintro ⟨s, vs⟩ hI
    dsimp only at hI ⊢
    obtain ⟨rfl, rfl⟩ := hI
    have sb := sum_bnd kb
    refine BIF_e (fun e => ⟨by omega, (mo + 1, c2), ⟨⟨by dsimp only; omega, by dsimp only; omega, linv_skip hl inv2 (List.eq_nil_of_length_eq_zero (by omega))⟩, by dsimp only; omega⟩, rfl, rfl, rfl, nn _, trivial⟩) (fun e => ⟨_, _, rfl, trivial, by omega, by omega, by omega, by omega, ?_⟩)
    have mb := mean_bnd kb (by omega)
    refine ⟨fun _ x => x.1 ≤ (kvs code fa mo l).length ∧ x.2 = ⟨code, fa, mo, (kvs code fa mo l).sum / ((kvs code fa mo l).length : Int), x.2.sp⟩ ∧ SprOk ((kvs code fa mo l).sum / ((kvs code fa mo l).length : Int)) ((kvs code fa mo l).take x.1) x.2.sp, fun _ x => (kvs code fa mo l).length - x.1, ⟨(0, ⟨code, fa, mo, (kvs code fa mo l).sum / ((kvs code fa mo l).length : Int), 0⟩), ⟨Nat.zero_le _, rfl, spr_0 _ _⟩, rfl, rfl, nn _, trivial⟩, ?_⟩
    rintro ⟨i, n⟩ hI
    dsimp only at hI ⊢
    obtain ⟨hi, hn, hs⟩ := hI
    have hme : n.me = (kvs code fa mo l).sum / ((kvs code fa mo l).length : Int) := by rw [hn]
    refine BIF_d (fun k => ⟨_, rfl, by omega, fun v hv => ?_⟩) (fun k => ⟨n, rfl, c2, rfl, rfl, by simp only [List.length_cons, List.length_nil]; omega, by omega, (mo + 1, c2 ++ [n]), ⟨⟨by dsimp only; omega, by dsimp only; omega, ?_⟩, by dsimp only; omega⟩, rfl, rfl, rfl, nn _, trivial⟩)
    · rw [Int.toNat_natCast] at hv
      have vb := kb v (List.mem_of_getElem? hv)
      have st := spr_step hs hv vb.1 vb.2 mb.1 mb.2
      rw [← hme] at st
      refine ⟨by omega, by omega, by omega, (i + 1, ⟨n.el, n.fa, n.mo, n.me, if n.me - v > if v - n.me > n.sp then v - n.me else n.sp then n.me - v else if v - n.me > n.sp then v - n.me else n.sp⟩), ⟨⟨by dsimp only; omega, ?_, ?_⟩, by dsimp only; omega⟩, by simp, rfl, nn _, trivial⟩
      · dsimp only
        rw [hn]
      · rw [← hme]; exact st
    · have : (kvs code fa mo l).length = i := by omega
      subst this
      rw [List.take_length] at hs
      have := linv_add hl inv2 o1 o3 f1 f3 m1 m3 (by omega) hs
      rw [← hn] at this
      exact this
theorem DClimate_ok : SpecOk Tryd.prog E 23 DClimatePT := spec (.cons Placed_ok (.cons Learn_ok (.cons N_ok (.cons Range_ok .nil)))) (by kernel_rfl) fun args bo Q h => by
  obtain ⟨r, m, rfl, rfl, hr, m1, m2, h⟩ := h
  rw [DClimate_vc]
  have nn := fun c => (vws_ok 43 vwNrm rfl).fl_nvs c
  refine ⟨r, 6, m, rfl, rfl, hr, by omega, by omega, m1, m2, fun l r1 hr1 hl h9 => ⟨l, rfl, rfl, hl, h9, fun c hc => BIF_t (nn c) ?_⟩⟩
  refine ⟨fun _ x => x.1 ≤ x.2.1.length ∧ x.2.1.length = c.length ∧ CliOk x.2.1 ∧ (∀ n ∈ x.2.1, n.sp ≤ 12000) ∧ Fresh x.2.1 x.1 ∧ x.2.2.ok, fun _ x => c.length - x.1, ⟨(0, c, r1), ⟨Nat.zero_le _, rfl, hc.cli, fun n hn => (hc.bd n hn).2.2, fun j n _ hn => hc.bd n (List.mem_of_getElem? hn), hr1⟩, rfl, rfl, rfl, nn _, rfl, trivial⟩, ?_⟩
  rintro ⟨i, d, q⟩ hI
  dsimp only at hI ⊢
  obtain ⟨i1, i2, hd, hs, hf, hq⟩ := hI
  have hlen := hd.len
  refine BIF_d (fun e => ⟨q, 4, rfl, rfl, hq, by omega, by unfold inR; omega, fun v q1 hq1 v1 v2 => ?_⟩) (fun e => ⟨d, rfl, rfl, rfl, h d q hq hd hs⟩)
  refine BIF_e (fun _ => ⟨q1, 60, rfl, rfl, hq1, by omega, by unfold inR; omega, fun w q2 hq2 w1 w2 => ⟨by omega, d, i, rfl, by omega, by omega, fun n hn => ?_⟩⟩) (fun _ => BIF_e (fun _ => ⟨by omega, d, i, rfl, by omega, by omega, fun n hn => ⟨q1, -30, 30, rfl, rfl, hq1, by omega, by omega, by omega, fun w q2 hq2 w1 w2 => ?_⟩⟩) (fun _ => ⟨by omega, (i + 1, d, q1), ⟨⟨by dsimp only; omega, i2, hd, hs, fresh_s hf, hq1⟩, by dsimp only; omega⟩, by simp, rfl, rfl, nn _, rfl, trivial⟩))
  · have b := hd.bd n (List.mem_of_getElem? hn)
    refine ⟨⟨n.el, n.fa, n.mo, n.me, w⟩, rfl, by omega, (i + 1, d.set i ⟨n.el, n.fa, n.mo, n.me, w⟩, q2), ⟨⟨by dsimp only; rw [List.length_set]; omega, by rw [List.length_set]; exact i2, hd.set hn rfl rfl rfl b.e1 b.e2 w1 (by dsimp only; omega), fun x hx => ?_, fresh_set hf, hq2⟩, by dsimp only; omega⟩, by simp, by rw [List.length_set], rfl, nn _, rfl, trivial⟩
    rcases mem_set hx with rfl | hx
    · dsimp only; omega
    · exact hs x hx
  · have b := hd.bd n (List.mem_of_getElem? hn)
    have fb := hf i n (Nat.le_refl _) hn
    refine ⟨by omega, by omega, d, i, rfl, by omega, by omega, fun n2 hn2 => ?_⟩
    obtain rfl := Option.some.inj (hn2.symm.trans hn)
    refine ⟨⟨n2.el, n2.fa, n2.mo, n2.me + w, n2.sp⟩, rfl, by omega, (i + 1, d.set i ⟨n2.el, n2.fa, n2.mo, n2.me + w, n2.sp⟩, q2), ⟨⟨by dsimp only; rw [List.length_set]; omega, by rw [List.length_set]; exact i2, hd.set hn rfl rfl rfl (by dsimp only; omega) (by dsimp only; omega) b.s1 b.s2, fun x hx => ?_, fresh_set hf, hq2⟩, by dsimp only; omega⟩, by simp, by rw [List.length_set], rfl, nn _, rfl, trivial⟩
    rcases mem_set hx with rfl | hx
    · exact hs n2 (List.mem_of_getElem? hn)
    · exact hs x hx
theorem KIn_ok : SpecOk Tryd.prog E 22 KInPT := spec .nil (by kernel_rfl) fun args bo Q h => by
  obtain ⟨l, x, rfl, rfl, hl, h⟩ := h
  rw [KIn_vc]
  simp only [View.ls_len]
  refine ⟨fun _ i => ∀ (j : Nat) (y : Int), j < i → l[j]? = some y → y ≠ x, fun _ i => l.length - i, ⟨0, fun j y hj => by omega, rfl, trivial⟩, fun i hno => BIF_d (fun e => ⟨l, rfl, by omega, fun y hy => ?_⟩) (fun e => ?_)⟩
  · rw [Int.toNat_natCast] at hy
    refine BIF_e (fun g => Qc (b1 ?_) h) (fun g => ⟨by omega, i + 1, ⟨fun j z hj hz => ?_, by dsimp only; omega⟩, by simp, trivial⟩)
    · subst g
      simp only [true_iff, List.contains_iff_mem]
      exact List.mem_of_getElem? hy
    · by_cases e : j = i
      · subst e; rw [hy] at hz; exact fun e => g ((Option.some.inj hz).trans e)
      · exact hno j z (by omega) hz
  · refine Qc (b1 ?_) h
    simp only [Bool.false_eq_true, false_iff, List.contains_iff_mem]
    intro hm
    obtain ⟨j, hj⟩ := List.mem_iff_getElem?.1 hm
    exact hno j x (by have := (List.getElem?_eq_some_iff.1 hj).1; omega) hj rfl
end Go.Proofs.YtbnglnpgkcjlhaaDoor
