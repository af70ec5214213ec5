/- The functions of the part 'Law15A' do what they are said to do. -/
import Derived.Test.YtbnglnpgkcjlhaaDoorZLaw15AV
import Derived.Test.YtbnglnpgkcjlhaaDoorZLaw15P
set_option linter.unusedVariables false
namespace Go.Proofs.YtbnglnpgkcjlhaaDoor
open Go Go.Vi
set_option maxRecDepth 100000
set_option maxHeartbeats 1000000
theorem SAnswers_ok : SpecOk Tryd.prog E 3 SAnswersPT := specA (.cons Small_ok (.cons New_ok (.cons Minute_ok (.cons Placed_ok (.cons Learn_ok (.cons N_ok (.cons Range_ok (.cons Report_ok (.cons Bent_ok (.cons SCheck_ok (.cons RSCheck_ok (.cons Ints_ok (.cons SFar_ok (.cons RSFar_ok (.cons Awake15_ok .nil))))))))))))))) (by kernel_rfl) fun args bo Q h => by
  obtain ⟨raw, x, l, code, rfl, rfl, hl, h⟩ := h
  rw [SAnswers_vc]
  simp only [View.ls_len]
  have nn := fun c => (vws_ok 43 vwNrm rfl).fl_nvs c
  refine BIF_d (fun _ => ⟨trivial, trivial, h⟩) (fun g1 => ⟨x, rfl, trivial, BIF_n (fun _ => ⟨trivial, trivial, h⟩) (fun g2 => ⟨l, rfl, trivial, hl, fun r hr => ⟨r, trivial, rfl, hr, fun t r1 hr1 t0 t1 => ?_⟩⟩)⟩)
  have hx : x.rd.length ≤ 40 := by
    simp only [Bool.and_eq_true, decide_eq_true_eq] at g2
    exact g2.2
  refine ⟨r1, 6, t, rfl, rfl, hr1, by omega, by omega, by omega, by omega, fun k r2 hr2 hk h9 => ⟨k, rfl, trivial, hk, h9, fun c hc => BIF_t (nn c) ?_⟩⟩
  have hcl := hc.cli.len
  refine ⟨fun _ z => z.1.length = c.length ∧ z.2.ok, ⟨fun _ z => z.1 ≤ c.length ∧ z.2.1.length = c.length ∧ z.2.2.ok, fun _ z => c.length - z.1, ⟨(0, c, r2), ⟨Nat.zero_le _, rfl, hr2⟩, rfl, rfl, rfl, nn _, rfl, trivial⟩, ?_⟩, ?_⟩
  · rintro ⟨i, d, q⟩ hI
    dsimp only at hI ⊢
    obtain ⟨hi, hd, hq⟩ := hI
    refine BIF_d (fun e => ⟨q, 100, rfl, rfl, hq, by omega, by unfold inR; omega, fun v q1 hq1 v0 v1 => ⟨⟨by omega, by omega⟩, d, i, rfl, by omega, by omega, fun n hn => ⟨⟨n.el, n.fa, n.mo, n.me, v⟩, rfl, q1, 9, rfl, rfl, hq1, by omega, by unfold inR; omega, fun w q2 hq2 w0 w1 => ?_⟩⟩⟩) (fun e => ⟨(d, q), ⟨hd, hq⟩, trivial, d, rfl, rfl, rfl, rfl, trivial⟩)
    refine BIF_e (fun _ => ⟨q2, 0, 13, rfl, rfl, hq2, by omega, by omega, by omega, fun u q3 hq3 u0 u1 => ⟨⟨by omega, by omega⟩, d.set i ⟨n.el, n.fa, n.mo, n.me, v⟩, i, rfl, by omega, by rw [List.length_set]; omega, fun m hm => ⟨⟨m.el, m.fa, u, m.me, m.sp⟩, rfl, by omega, (i + 1, (d.set i ⟨n.el, n.fa, n.mo, n.me, v⟩).set i ⟨m.el, m.fa, u, m.me, m.sp⟩, q3), ⟨⟨by dsimp only; omega, by dsimp only; rw [List.length_set, List.length_set]; exact hd, hq3⟩, by dsimp only; omega⟩, rfl, by rw [List.length_set, List.length_set], rfl, nn _, rfl, trivial⟩⟩⟩) (fun _ => ⟨by omega, (i + 1, d.set i ⟨n.el, n.fa, n.mo, n.me, v⟩, q2), ⟨⟨by dsimp only; omega, by dsimp only; rw [List.length_set]; exact hd, hq2⟩, by dsimp only; omega⟩, rfl, by rw [List.length_set], rfl, nn _, rfl, trivial⟩)
  · rintro ⟨d, q⟩ hI
    dsimp only at hI ⊢
    obtain ⟨hd, hq⟩ := hI
    have hpl : ∀ b : Rep, RepOk b → 0 ≤ b.pl.c ∧ b.pl.c ≤ 840 := fun b hb => by
      by_cases e : b.kind = 1
      · rw [hb.land e]; decide
      · have := (isNF_ok (hb.sea e)).1
        unfold okP at this
        simp only [decide_eq_true_eq] at this
        omega
    refine ⟨q, t, rfl, rfl, hq, by omega, by omega, fun a q1 hq1 ha => ⟨q1, t, rfl, rfl, hq1, by omega, by omega, fun b q2 hq2 hb => ⟨q2, b, rfl, rfl, hq2, by have := hb.len; omega, by have := hpl b hb; omega, by have := hpl b hb; omega, fun y q3 hq3 hy => ?_⟩⟩⟩
    have hL : ∀ r ∈ [x, a, y] ++ k, r.rd.length ≤ 1000 := by
      have h1 := ha.len
      have h2 := hb.len
      intro r hr
      rcases List.mem_append.1 hr with hr | hr
      · rcases List.mem_cons.1 hr with rfl | hr
        · omega
        · rcases List.mem_cons.1 hr with rfl | hr
          · omega
          · rcases List.mem_cons.1 hr with rfl | hr
            · omega
            · cases hr
      · have := (hk r hr).len
        omega
    have hM : ∀ c ∈ [raw, d], c.length ≤ 1000 := by
      intro c hc
      rcases List.mem_cons.1 hc with rfl | hc
      · omega
      · rcases List.mem_cons.1 hc with rfl | hc
        · omega
        · cases hc
    refine ⟨k, rfl, [x, a, y], rfl, by simp only [List.length_cons, List.length_nil]; omega, by omega, fun _ => ?_, fun _ => ?_⟩
    · refine ⟨fun _ z => z.1 ≤ 2 ∧ (∀ r ∈ z.2.1, r.rd.length ≤ 1000) ∧ z.2.2.1.length = 2 ∧ (∀ c ∈ z.2.2.1, c.length ≤ 1000) ∧ z.2.2.2.ok ∧ z.2.1.length ≤ 100, fun _ z => 2 - z.1, ⟨(0, [x, a, y], [raw, d], q3), ⟨by dsimp only; omega, fun r hr => hL r (List.mem_append_left _ hr), rfl, hM, hq3, by dsimp only [List.length_cons, List.length_nil]; omega⟩, rfl, [x, a, y], rfl, rfl, rfl, [raw, d], rfl, rfl, rfl, rfl, trivial⟩, ?_⟩
      rintro ⟨i, L, M, q⟩ hI
      dsimp only at hI ⊢
      obtain ⟨hi, hL, hM2, hM, hq, hL9⟩ := hI
      refine BIF_d (fun g => ⟨M, rfl, by omega, fun cc hcc => ?_⟩) (fun _ => ⟨trivial, trivial, h⟩)
      have hccl := hM cc (List.mem_of_getElem? hcc)
      refine ⟨fun _ z => z.1 ≤ L.length ∧ z.2.ok, fun _ z => L.length - z.1, ⟨(0, q), ⟨Nat.zero_le _, hq⟩, rfl, rfl, trivial⟩, ?_⟩
      rintro ⟨j, q⟩ hI
      dsimp only at hI ⊢
      obtain ⟨hj, hq⟩ := hI
      refine BIF_d (fun g2 => ⟨L, rfl, by omega, fun r hr => ?_⟩) (fun g2 => ⟨by omega, (i + 1, L, M, q), ⟨⟨by dsimp only; omega, hL, hM2, hM, hq, hL9⟩, by dsimp only; omega⟩, rfl, rfl, rfl, rfl, trivial⟩)
      have hrl := hL r (List.mem_of_getElem? hr)
      have hs := sea_len (c := cc) (r := r)
      refine ⟨cc, r, rfl, trivial, by omega, by omega, cc, r, rfl, trivial, by omega, by omega, BIF_ne (fun g => absurd rfl g) fun _ => ⟨_, _, rfl, trivial, by omega, BIF_n (fun g => by simp at g) fun _ => ⟨q, 1, 11, rfl, rfl, hq, by omega, by omega, by omega, fun v q1 hq1 v1 v2 => ?_⟩⟩⟩
      refine ⟨fun _ n => n ≤ 2, fun _ n => 2 - n, ⟨0, by omega, rfl, trivial⟩, fun n hn => BIF_d (fun g3 => ⟨⟨by omega, by omega⟩, [code, v], n, rfl, by omega, by simp only [List.length_cons, List.length_nil]; omega, fun z hz => ⟨cc, r, z, rfl, trivial, by omega, by omega, cc, r, z, rfl, trivial, by omega, by omega, BIF_ne (fun g => absurd rfl g) fun _ => BIF_n (fun g => by simp at g) fun _ => ⟨by omega, n + 1, ⟨by dsimp only; omega, by dsimp only; omega⟩, rfl, trivial⟩⟩⟩) (fun g3 => ⟨by omega, (j + 1, q1), ⟨⟨by dsimp only; omega, hq1⟩, by dsimp only; omega⟩, rfl, rfl, trivial⟩)⟩
    · refine ⟨fun _ z => z.1 ≤ 2 ∧ (∀ r ∈ z.2.1, r.rd.length ≤ 1000) ∧ z.2.2.1.length = 2 ∧ (∀ c ∈ z.2.2.1, c.length ≤ 1000) ∧ z.2.2.2.ok ∧ z.2.1.length ≤ 100, fun _ z => 2 - z.1, ⟨(0, [x, a, y] ++ k, [raw, d], q3), ⟨by dsimp only; omega, hL, rfl, hM, hq3, by dsimp only; simp only [List.length_append, List.length_cons, List.length_nil]; omega⟩, rfl, [x, a, y] ++ k, rfl, rfl, rfl, [raw, d], rfl, rfl, rfl, rfl, trivial⟩, ?_⟩
      rintro ⟨i, L, M, q⟩ hI
      dsimp only at hI ⊢
      obtain ⟨hi, hL, hM2, hM, hq, hL9⟩ := hI
      refine BIF_d (fun g => ⟨M, rfl, by omega, fun cc hcc => ?_⟩) (fun _ => ⟨trivial, trivial, h⟩)
      have hccl := hM cc (List.mem_of_getElem? hcc)
      refine ⟨fun _ z => z.1 ≤ L.length ∧ z.2.ok, fun _ z => L.length - z.1, ⟨(0, q), ⟨Nat.zero_le _, hq⟩, rfl, rfl, trivial⟩, ?_⟩
      rintro ⟨j, q⟩ hI
      dsimp only at hI ⊢
      obtain ⟨hj, hq⟩ := hI
      refine BIF_d (fun g2 => ⟨L, rfl, by omega, fun r hr => ?_⟩) (fun g2 => ⟨by omega, (i + 1, L, M, q), ⟨⟨by dsimp only; omega, hL, hM2, hM, hq, hL9⟩, by dsimp only; omega⟩, rfl, rfl, rfl, rfl, trivial⟩)
      have hrl := hL r (List.mem_of_getElem? hr)
      have hs := sea_len (c := cc) (r := r)
      refine ⟨cc, r, rfl, trivial, by omega, by omega, cc, r, rfl, trivial, by omega, by omega, BIF_ne (fun g => absurd rfl g) fun _ => ⟨_, _, rfl, trivial, by omega, BIF_n (fun g => by simp at g) fun _ => ⟨q, 1, 11, rfl, rfl, hq, by omega, by omega, by omega, fun v q1 hq1 v1 v2 => ?_⟩⟩⟩
      refine ⟨fun _ n => n ≤ 2, fun _ n => 2 - n, ⟨0, by omega, rfl, trivial⟩, fun n hn => BIF_d (fun g3 => ⟨⟨by omega, by omega⟩, [code, v], n, rfl, by omega, by simp only [List.length_cons, List.length_nil]; omega, fun z hz => ⟨cc, r, z, rfl, trivial, by omega, by omega, cc, r, z, rfl, trivial, by omega, by omega, BIF_ne (fun g => absurd rfl g) fun _ => BIF_n (fun g => by simp at g) fun _ => ⟨by omega, n + 1, ⟨by dsimp only; omega, by dsimp only; omega⟩, rfl, trivial⟩⟩⟩) (fun g3 => ⟨by omega, (j + 1, q1), ⟨⟨by dsimp only; omega, hq1⟩, by dsimp only; omega⟩, rfl, rfl, trivial⟩)⟩
end Go.Proofs.YtbnglnpgkcjlhaaDoor
