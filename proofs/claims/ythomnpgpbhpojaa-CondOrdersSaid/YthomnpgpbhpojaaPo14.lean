/- cond: DropVertex. -/
import Derived.Test.YthomnpgpbhpojaaPo5
import Derived.Test.YthomnpgpbhpojaaPo13
namespace Go.Proofs.Ythomnpgpbhpojaa.Cd
open Go Go.RowKit Go.MapKept Go.Proofs.Ythomnpgpbhpojaa.Mem Go.Proofs.Ythomnpgpbhpojaa.Sl Go.Proofs.Ythomnpgpbhpojaa.Lw Go.Proofs.Ythomnpgpbhpojaa.Pt Go.Proofs.YthomnpgpbhpojaaW.PrintWords Go.Proofs.YthomnpgpbhpojaaW.PrintLast
attribute [local go_sem ↓] Go.wp_at_zero Go.wp_at_succ
set_option linter.unusedSimpArgs false
set_option linter.unusedVariables false

section
variable {w w' W W' w1 : World} {gc ga go gi gp gm : Nat} {lk : Int} {arcs : Int → Option (Int × Int)} {ob ib : Int → Nat} {cls : Int → Option Nat} {row : Nat → List Int} {val : Nat → Value} {tg : Nat → Nat × Int} {pb cb : Nat → Prop} {fa fo fi : Int → Option Value} {Fo Fi : Int → Int → Option Value} {D : Int → Prop}
theorem und_map : Try.prog.underlying 53 = some (.map (Try.prog.mapKeyOf 53) (Try.prog.mapElemOf 53)) := by
  simp only [Program.mapKeyOf, Program.mapElemOf, Try.underlying53]
theorem MQ.len {b : Nat} {f : Int → Option Value} (h : MQ w b f) {K : List Int} (hK : ∀ k, f k ≠ none → k ∈ K) :
    ∃ n : Nat, (Builtin.len_ #[53] 3 #[.map (some b)]).run Try.prog w = .ok (.int .i64 (n : Int)) w ∧ n ≤ K.length ∧ (n = 0 ↔ ∀ k, f k = none) := by
  obtain ⟨es, clock, hb, hs, hk, hf⟩ := h
  have hkeys : ∀ x ∈ es.toList, ∃ a : Int, x.key = .int .i64 a ∧ f a ≠ none := fun x hx => by
    obtain ⟨a, v, h1, h2⟩ := hk x hx
    refine ⟨a, h1, fun e => ?_⟩
    have := (hf a v).2 ⟨x, hx, h1, h2⟩
    rw [e] at this
    cases this
  have hlen : es.size ≤ K.length := by
    have hn := (stamped_iff es clock).1 hs
    let g : MapEntry → Int := fun x => match x.key with | .int _ a => a | _ => 0
    have h1 : (es.toList.map g).Nodup := by
      rw [List.Nodup, List.pairwise_map]
      refine List.Pairwise.imp_of_mem (fun {x y} hx hy hne e => ?_) hn.2.2
      obtain ⟨a, h1, _⟩ := hkeys x hx
      obtain ⟨b', h2, _⟩ := hkeys y hy
      simp only [g, h1, h2] at e
      exact hne (by rw [h1, h2, e])
    have h2 := nodup_le h1 (m := K) fun k hk => by
      obtain ⟨x, hx, rfl⟩ := List.mem_map.1 hk
      obtain ⟨a, h1, h2⟩ := hkeys x hx
      simp only [g, h1]
      exact hK a h2
    simpa using h2
  refine ⟨es.size, run_len_map _ _ _ b es clock und_map hb, hlen, fun e k => ?_, fun hn => ?_⟩
  · cases hx : f k with
    | none => rfl
    | some v =>
      obtain ⟨x, hx, _⟩ := (hf k v).1 hx
      have : es.toList.length = 0 := by simpa using e
      rw [List.length_eq_zero_iff.1 this] at hx
      cases hx
  · rcases Nat.eq_zero_or_pos es.size with e | e
    · exact e
    · have hx : es[0] ∈ es.toList := by simp
      obtain ⟨a, _, h2⟩ := hkeys _ hx
      exact absurd (hn a) h2
theorem lookV {g : Nat} (h : MQ w g (vtF cls ob)) (v : Int) : (Instr.lookup 54 (.map (some g)) (.int .i64 v) false).run Try.prog w = .ok ((vtF cls ob v).getD (.map none)) w :=
  h.lookup Try.underlying54 Try.underlying3 zero_map v
theorem vtF_none {v : Int} (h : cls v = none) : vtF cls ob v = none := by simp [vtF, h]
theorem vtF_some {v : Int} (h : cls v ≠ none) : vtF cls ob v = some (.map (some (ob v))) := by
  unfold vtF
  cases e : cls v with
  | none => exact absurd e h
  | some b => rfl

def tb25_1.T1 : Bool × List (List Nat × List Nat) := (true, [([], []), ([0], [0]), ([1], [1]), ([2], [2]), ([], []), ([3, 4], [3, 4]), ([5], [5]), ([], []), ([7], [7]), ([8], [8]), ([9], [9]), ([], []), ([10, 11], [10, 11]), ([12, 6], [12]), ([6, 13], [6, 13]), ([14], [14]), ([15, 13], [15]), ([16], [16]), ([17, 16], [16, 17]), ([18, 16], [16, 18]), ([19, 16], [16, 19]), ([16], [16]), ([20, 21, 16, 16], [16, 20, 21]), ([22, 16], [16, 22]), ([16, 23], [16, 23])])
def tb25_1.B1 : List Nat := [0, 1, 3, 7, 0, 31, 63, 0, 128, 384, 896, 0, 3968, 8191, 16383, 32767, 65535, 131071, 262143, 524287, 1048575, 131071, 4194303, 8388607, 16777215]
theorem tb25_1.tab1 : rtab .any (opsOf Try.f25 1) = tb25_1.T1 := by kernel_rfl
theorem tb25_1.bits1 : waitsOk tb25_1.T1.2 tb25_1.B1 = true := by kernel_rfl
theorem run_len_none (w : World) : (Builtin.len_ #[53] 3 #[.map none]).run Try.prog w = .ok (.int .i64 0) w := run_len_nilMap _ _ _ und_map
set_option maxHeartbeats 16000000 in
set_option maxRecDepth 100000 in
theorem dropv_no (h : CdS w gc ga go gi gp gm lk arcs ob ib cls row val tg pb cb) (v : Int) (hv : cls v = none) :
    Calls Try.prog 25 #[.pointer (some ⟨gc, 0, none⟩), .int .i64 v] w fun e w' => e = .returned (.bool false) ∧ Below w.heap.size w w' := by
  have hd := h.below (w' := w.drew) (Below.refl _ _).drew
  have q1 := h.m.hc.cell 1 rfl
  have q2 := h.m.hc.cell 2 rfl
  have q3 := h.m.hc.cell 3 rfl
  have l1 := lookV hd.m.ho v
  have l2 := lookV hd.m.hi v
  rw [vtF_none hv, Option.getD_none] at l1 l2
  have HC := Lib.hid (drop_no hd.p v hv)
  have hln := run_len_none
  have hw0 : wrap64 0 = 0 := by unfold wrap64; omega
  have hw1 : ¬ (0 : Int) < 0 := by decide
  clear h hv hd
  go_enter Try.func25, Try.ntmps25
  go_upto_region 1 with (fail)
  refine start_ (n := 25) (S := fun w' => w'.cell? ⟨gc, 1, none⟩ = some (.map (some go)) ∧ w'.cell? ⟨gc, 2, none⟩ = some (.map (some gi)) ∧ w'.cell? ⟨gc, 3, none⟩ = some (.pointer (some ⟨gp, 0, none⟩)) ∧ (Instr.lookup 54 (.map (some go)) (.int .i64 v) false).run Try.prog w' = .ok (.map none) w' ∧ (Instr.lookup 54 (.map (some gi)) (.int .i64 v) false).run Try.prog w' = .ok (.map none) w') (ds := [22]) (bA 25 0) (by kernel_rfl) rfl rfl ⟨q1, q2, q3, l1, l2⟩ (fun hHeld => ?_)
  refine with_tabW tb25_1.tab1 tb25_1.bits1 (fun HT_ HW_ => ?_)
  refine pw_ 0 5 (bA 25 1) HT_.out ?_
  refine pw_ 1 6 (bA 25 3) HT_.out ?_
  refine pw_ 2 7 (bA 25 7) HT_.out ?_
  refine pw_ 4 9 (bA 25 23) HT_.out ?_
  refine pw_ 7 12 (bA 25 151) HT_.out ?_
  refine pw_ 8 13 (bA 25 407) HT_.out ?_
  refine pw_ 9 14 (bA 25 919) HT_.out ?_
  refine pw_ 11 16 (bA 25 2967) HT_.out ?_
  refine tw_ 3 8 (bA 25 2975) HT_.out HW_.out hHeld (hv := by rintro w' ⟨s0, s1, s2, s3, s4⟩; go_simp; with_reducible rfl) (h := ?_)
  refine tw_ 5 10 (bA 25 3007) HT_.out HW_.out hHeld (hv := by rintro w' ⟨s0, s1, s2, s3, s4⟩; go_simp; with_reducible rfl) (h := ?_)
  refine pw_ 6 11 (bA 25 3071) HT_.out ?_
  refine tw_ 10 15 (bA 25 4095) HT_.out HW_.out hHeld (hv := by rintro w' ⟨s0, s1, s2, s3, s4⟩; go_simp; with_reducible rfl) (h := ?_)
  refine tw_ 12 17 (bA 25 8191) HT_.out HW_.out hHeld (hv := by rintro w' ⟨s0, s1, s2, s3, s4⟩; go_simp; with_reducible rfl) (h := ?_)
  refine pw_ 13 18 (bA 25 16383) HT_.out ?_
  refine pw_ 14 19 (bA 25 32767) HT_.out ?_
  refine pw_ 15 20 (bA 25 65535) HT_.out ?_
  refine pw_ 16 21 (bA 25 131071) HT_.out ?_
  refine pw_ 17 22 (bA 25 262143) HT_.out ?_
  refine pw_ 18 23 (bA 25 524287) HT_.out ?_
  refine pw_ 19 24 (bA 25 1048575) HT_.out ?_
  refine pw_ 21 26 (bA 25 3145727) HT_.out ?_
  refine tw_ 20 25 (bA 25 4194303) HT_.out HW_.out hHeld (hv := by rintro w' ⟨s0, s1, s2, s3, s4⟩; go_simp; with_reducible rfl) (h := ?_)
  refine last_ (i := 22) (N := some 27) (bA 25 8388607) rfl rfl (one_of HT_.out (by kernel_rfl)) (by decide) (fun K hK => ?_)
  refine gw_ Try.func51 #[.pointer (some ⟨gp, 0, none⟩), .int .i64 v] ?_
  with_reducible refine (HC.out).mono ?_
  rintro e w1 ⟨rfl, hb1⟩
  refine ⟨_, rfl, ?_⟩
  refine hK.out _ _ ?_; clear hK K
  refine norm_ (a' := ?_) ?_ ?_
  rotate_left
  · show Act.put _ (some 27) _ = _
    simp only [Act.put, pA, pB, pC, pD, pE]; rfl
  refine pw_ 23 28 (bA 25 16777215) HT_.out ?_
  refine pw_ 24 29 (bA 25 33554431) HT_.out ?_
  refine done_ (done_of HT_.out (by kernel_rfl)) ?_
  clear hHeld HT_ HW_
  go_wp2
  go_ret
  exact ⟨rfl, (Below.refl _ _).drew.trans hb1⟩
set_option maxHeartbeats 16000000 in
set_option maxRecDepth 100000 in
theorem dropv_has (h : CdS w gc ga go gi gp gm lk arcs ob ib cls row val tg pb cb) (v : Int) (hv : cls v ≠ none) (ha : ∃ e p, arcs e = some p ∧ (p.1 = v ∨ p.2 = v)) :
    Calls Try.prog 25 #[.pointer (some ⟨gc, 0, none⟩), .int .i64 v] w fun e w' => e = .returned (.bool false) ∧ w' = w.drew := by
  have hd := h.below (w' := w.drew) (Below.refl _ _).drew
  have q1 := h.m.hc.cell 1 rfl
  have q2 := h.m.hc.cell 2 rfl
  have q3 := h.m.hc.cell 3 rfl
  have l1 := lookV hd.m.ho v
  have l2 := lookV hd.m.hi v
  rw [vtF_some hv, Option.getD_some] at l1 l2
  obtain ⟨K, hK, hKa⟩ := h.fin
  obtain ⟨m1, n1, hm1, hz1⟩ := MQ.len (hd.m.oo v hv) (K := K) fun k hk => hKa k fun e => hk (by unfold ouF; rw [e]; rfl)
  obtain ⟨m2, n2, hm2, hz2⟩ := MQ.len (hd.m.ii v hv) (K := K) fun k hk => hKa k fun e => hk (by unfold inF; rw [e]; rfl)
  have hpos : 0 < m1 + m2 := by
    obtain ⟨e, p, h1, h2 | h2⟩ := ha
    · rcases Nat.eq_zero_or_pos m1 with h0 | h0
      · have := hz1.1 h0 e
        have h3 := ouF_iff.2 ⟨p.2, show arcs e = some (v, p.2) by rw [h1, ← h2], rfl⟩
        rw [this] at h3
        cases h3
      · omega
    · rcases Nat.eq_zero_or_pos m2 with h0 | h0
      · have := hz2.1 h0 e
        have h3 := inF_iff.2 ⟨p.1, show arcs e = some (p.1, v) by rw [h1, ← h2], rfl⟩
        rw [this] at h3
        cases h3
      · omega
  obtain ⟨bo, hbo⟩ : ∃ bo, ob v = bo := ⟨_, rfl⟩
  obtain ⟨bi, hbi⟩ : ∃ bi, ib v = bi := ⟨_, rfl⟩
  rw [hbo] at l1 n1
  rw [hbi] at l2 n2
  have k1 : ((m1 : Int) + (m2 : Int)) ≤ 2000 := by omega
  have k2 : decide (0 < (m1 : Int) + (m2 : Int)) = true := decide_eq_true (by omega)
  obtain ⟨x1, hx1⟩ : ∃ x : Int, (m1 : Int) = x := ⟨_, rfl⟩
  obtain ⟨x2, hx2⟩ : ∃ x : Int, (m2 : Int) = x := ⟨_, rfl⟩
  rw [hx1] at n1 k1 k2
  rw [hx2] at n2 k1 k2
  have p1 : 0 ≤ x1 := by omega
  have p2 : 0 ≤ x2 := by omega
  have hadd : wrap64 (x1 + x2) = x1 + x2 := by unfold wrap64; omega
  have k3 : 0 < x1 + x2 := of_decide_eq_true k2
  clear h hv ha hd hK hKa hm1 hm2 hz1 hz2 hpos hbo hbi hx1 hx2
  go_enter Try.func25, Try.ntmps25
  go_upto_region 1 with (fail)
  refine start_ (n := 25) (S := fun w' => w'.cell? ⟨gc, 1, none⟩ = some (.map (some go)) ∧ w'.cell? ⟨gc, 2, none⟩ = some (.map (some gi)) ∧ w'.cell? ⟨gc, 3, none⟩ = some (.pointer (some ⟨gp, 0, none⟩)) ∧ (Instr.lookup 54 (.map (some go)) (.int .i64 v) false).run Try.prog w' = .ok (.map (some bo)) w' ∧ (Instr.lookup 54 (.map (some gi)) (.int .i64 v) false).run Try.prog w' = .ok (.map (some bi)) w' ∧ (Builtin.len_ #[53] 3 #[.map (some bo)]).run Try.prog w' = .ok (.int .i64 x1) w' ∧ (Builtin.len_ #[53] 3 #[.map (some bi)]).run Try.prog w' = .ok (.int .i64 x2) w') (ds := []) (bA 25 0) (by kernel_rfl) rfl rfl ⟨q1, q2, q3, l1, l2, n1, n2⟩ (fun hHeld => ?_)
  refine with_tabW tb25_1.tab1 tb25_1.bits1 (fun HT_ HW_ => ?_)
  refine pw_ 0 5 (bA 25 1) HT_.out ?_
  refine pw_ 1 6 (bA 25 3) HT_.out ?_
  refine pw_ 2 7 (bA 25 7) HT_.out ?_
  refine pw_ 4 9 (bA 25 23) HT_.out ?_
  refine pw_ 7 12 (bA 25 151) HT_.out ?_
  refine pw_ 8 13 (bA 25 407) HT_.out ?_
  refine pw_ 9 14 (bA 25 919) HT_.out ?_
  refine pw_ 11 16 (bA 25 2967) HT_.out ?_
  refine tw_ 3 8 (bA 25 2975) HT_.out HW_.out hHeld (hv := by rintro w' ⟨s0, s1, s2, s3, s4, s5, s6⟩; go_simp; with_reducible rfl) (h := ?_)
  refine tw_ 5 10 (bA 25 3007) HT_.out HW_.out hHeld (hv := by rintro w' ⟨s0, s1, s2, s3, s4, s5, s6⟩; go_simp; with_reducible rfl) (h := ?_)
  refine tw_ 6 11 (bA 25 3071) HT_.out HW_.out hHeld (hv := by rintro w' ⟨s0, s1, s2, s3, s4, s5, s6⟩; go_simp; with_reducible rfl) (h := ?_)
  refine tw_ 10 15 (bA 25 4095) HT_.out HW_.out hHeld (hv := by rintro w' ⟨s0, s1, s2, s3, s4, s5, s6⟩; go_simp; with_reducible rfl) (h := ?_)
  refine tw_ 12 17 (bA 25 8191) HT_.out HW_.out hHeld (hv := by rintro w' ⟨s0, s1, s2, s3, s4, s5, s6⟩; go_simp; with_reducible rfl) (h := ?_)
  refine tw_ 13 18 (bA 25 16383) HT_.out HW_.out hHeld (hv := by rintro w' ⟨s0, s1, s2, s3, s4, s5, s6⟩; go_simp; with_reducible rfl) (h := ?_)
  refine pw_ 14 19 (bA 25 32767) HT_.out ?_
  refine pw_ 15 20 (bA 25 65535) HT_.out ?_
  refine pw_ 16 21 (bA 25 131071) HT_.out ?_
  refine pu_ 17 22 (bA 25 262143) HT_.out ?_
  refine pu_ 18 23 (bA 25 524287) HT_.out ?_
  refine pu_ 19 24 (bA 25 1048575) HT_.out ?_
  refine pu_ 20 25 (bA 25 2097151) HT_.out ?_
  refine pu_ 21 26 (bA 25 4194303) HT_.out ?_
  refine pu_ 22 27 (bA 25 8388607) HT_.out ?_
  refine pu_ 23 28 (bA 25 16777215) HT_.out ?_
  refine pw_ 24 29 (bA 25 33554431) HT_.out ?_
  refine done_ (done_of HT_.out (by kernel_rfl)) ?_
  clear hHeld HT_ HW_
  go_wp2
  go_ret
  exact ⟨rfl, rfl⟩
theorem vtF_del {v : Int} : updV (vtF cls ob) v none = vtF (fun x => if x = v then none else cls x) ob := by
  funext x
  unfold vtF updV
  by_cases e : x = v <;> simp [e]
theorem dropv_end {v : Int} (h : CdS w gc ga go gi gp gm lk arcs ob ib cls row val tg pb cb) (ha : ∀ e p, arcs e = some p → p.1 ≠ v ∧ p.2 ≠ v)
    (hm1 : CdM w1 gc ga go gi gp gm lk (arF arcs) (vtF cls ob) (vtF cls ib) ob ib (ouF arcs) (inF arcs) (fun v => cls v ≠ none) tg (ext pb w w1) (ext cb w w1))
    (hP1 : PtS w1 gp gm (fun x => if x = v then none else cls x) row val (ext pb w w1)) (hk1 : Kpt pb w w1)
    (hA : AVs w1 go gi (vtF (fun x => if x = v then none else cls x) ob) (vtF (fun x => if x = v then none else cls x) ib) W)
    (hat : At W gc [.map (some ga), .map (some go), .map (some gi), .pointer (some ⟨gp, 0, none⟩), .int .i64 lk] 58) :
    Kpt cb w W ∧ ∃ pb', CdS W gc ga go gi gp gm lk arcs ob ib (fun x => if x = v then none else cls x) row val tg pb' (ext cb w W) := by
  have hsz := hk1.size
  have hsz2 := hA.k.size
  have hD : ∀ x, (if x = v then none else cls x) ≠ none → x ≠ v ∧ cls x ≠ none := fun x hx => by
    by_cases e : x = v
    · rw [if_pos e] at hx
      exact absurd rfl hx
    · rw [if_neg e] at hx
      exact ⟨e, hx⟩
  have hout : ∀ k, k < w1.heap.size → k ≠ go → k ≠ gi → W.heap[k]? = w1.heap[k]? := fun k hk h1 h2 => hA.k.block k hk (fun e => e.elim h1 h2)
  have hoT : ∀ x, cls x ≠ none → ob x ≠ go ∧ ob x ≠ gi ∧ ib x ≠ go ∧ ib x ≠ gi := fun x hx =>
    ⟨tgne (h.m.t.ob x hx) h.m.t.o (by simp), tgne (h.m.t.ob x hx) h.m.t.i (by simp), tgne (h.m.t.ib x hx) h.m.t.o (by simp), tgne (h.m.t.ib x hx) h.m.t.i (by simp)⟩
  have haT : ga ≠ go ∧ ga ≠ gi := ⟨tgne h.m.t.a h.m.t.o (by simp), tgne h.m.t.a h.m.t.i (by simp)⟩
  have hkW : Kpt cb w W := (hk1.mono fun k _ => h.m.cp k).trans' hA.k fun k _ e => e.elim (fun e => e ▸ h.m.co) (fun e => e ▸ h.m.ci)
  refine ⟨hkW, ext pb w w1, ⟨⟨hat, hm1.ha.move (hout _ hm1.ha.lt haT.1 haT.2), hA.o, hA.i, fun x hx => ?_, fun x hx => ?_, ⟨h.m.t.a, h.m.t.o, h.m.t.i, h.m.t.m, fun x hx => h.m.t.ob x (hD x hx).2, fun x hx => h.m.t.ib x (hD x hx).2⟩, hm1.nc, hm1.na, hm1.no, hm1.ni, fun x hx => hm1.nob x (hD x hx).2, fun x hx => hm1.nib x (hD x hx).2, .inl h.m.cc, .inl h.m.ca, .inl h.m.co, .inl h.m.ci, fun x hx => .inl (h.m.cob x (hD x hx).2), fun x hx => .inl (h.m.cib x (hD x hx).2), fun k hk => ?_, .inl h.m.cgp, fun k hk => ?_⟩,
    PtS.keep hP1 hA.k (fun e => e.elim (fun e => ?_) (fun e => ?_)) (fun k hk e => e.elim (fun e => ?_) (fun e => ?_)), fun e p hp => ?_, h.fin⟩⟩
  · have hx := (hD x hx).2
    exact (hm1.oo x hx).move (hout _ (hm1.oo x hx).lt (hoT x hx).1 (hoT x hx).2.1)
  · have hx := (hD x hx).2
    exact (hm1.ii x hx).move (hout _ (hm1.ii x hx).lt (hoT x hx).2.2.1 (hoT x hx).2.2.2)
  · exact (hm1.cp k hk).imp id fun ⟨a, b⟩ => ⟨a, by omega⟩
  · rcases hk with e | ⟨_, e⟩
    · have := h.m.lt k e
      omega
    · exact e
  · exact h.m.ho.ne h.p.hp e
  · exact h.m.hi.ne h.p.hp e
  · exact hm1.no (e ▸ hk)
  · exact hm1.ni (e ▸ hk)
  · have hx := h.en e p hp
    rw [if_neg (ha e p hp).1, if_neg (ha e p hp).2]
    exact hx
set_option maxHeartbeats 16000000 in
set_option maxRecDepth 100000 in
theorem dropv_calls (h : CdS w gc ga go gi gp gm lk arcs ob ib cls row val tg pb cb) (v : Int) {b0 : Nat} (hv : cls v = some b0) (hr : row b0 = [v]) (ha : ∀ e p, arcs e = some p → p.1 ≠ v ∧ p.2 ≠ v) :
    Calls Try.prog 25 #[.pointer (some ⟨gc, 0, none⟩), .int .i64 v] w fun e w' => e = .returned (.bool true) ∧ Kpt cb w w' ∧ ∃ pb', CdS w' gc ga go gi gp gm lk arcs ob ib (fun x => if x = v then none else cls x) row val tg pb' (ext cb w w') := by
  have hd := h.below (w' := w.drew) (Below.refl _ _).drew
  have q1 := h.m.hc.cell 1 rfl
  have q2 := h.m.hc.cell 2 rfl
  have q3 := h.m.hc.cell 3 rfl
  have l1 := lookV hd.m.ho v
  have l2 := lookV hd.m.hi v
  have hvn : cls v ≠ none := fun e => by rw [hv] at e; cases e
  rw [vtF_some hvn, Option.getD_some] at l1 l2
  obtain ⟨K, hK, hKa⟩ := h.fin
  obtain ⟨m1, n1, hm1, hz1⟩ := MQ.len (hd.m.oo v hvn) (K := K) fun k hk => hKa k fun e => hk (by unfold ouF; rw [e]; rfl)
  obtain ⟨m2, n2, hm2, hz2⟩ := MQ.len (hd.m.ii v hvn) (K := K) fun k hk => hKa k fun e => hk (by unfold inF; rw [e]; rfl)
  obtain rfl := hz1.2 fun k => congrFun (ouF_nil fun e p hp => (ha e p hp).1) k
  obtain rfl := hz2.2 fun k => congrFun (inF_nil fun e p hp => (ha e p hp).2) k
  obtain ⟨bo, hbo⟩ : ∃ bo, ob v = bo := ⟨_, rfl⟩
  obtain ⟨bi, hbi⟩ : ∃ bi, ib v = bi := ⟨_, rfl⟩
  rw [hbo] at l1 n1
  rw [hbi] at l2 n2
  have hw0 : wrap64 0 = 0 := by unfold wrap64; omega
  have hw1 : ¬ (0 : Int) < 0 := by decide
  have n1 : (Builtin.len_ #[53] 3 #[.map (some bo)]).run Try.prog w.drew = .ok (.int .i64 0) w.drew := n1
  have n2 : (Builtin.len_ #[53] 3 #[.map (some bi)]).run Try.prog w.drew = .ok (.int .i64 0) w.drew := n2
  have HC := Lib.hid (drop_calls hd.p v hv hr)
  have HH := Lib.hid (And.intro h ha)
  clear h hv hvn hr ha hd hK hKa hm1 hm2 hz1 hz2 hbo hbi
  go_enter Try.func25, Try.ntmps25
  go_upto_region 1 with (fail)
  refine start_ (n := 25) (S := fun w' => w'.cell? ⟨gc, 1, none⟩ = some (.map (some go)) ∧ w'.cell? ⟨gc, 2, none⟩ = some (.map (some gi)) ∧ w'.cell? ⟨gc, 3, none⟩ = some (.pointer (some ⟨gp, 0, none⟩)) ∧ (Instr.lookup 54 (.map (some go)) (.int .i64 v) false).run Try.prog w' = .ok (.map (some bo)) w' ∧ (Instr.lookup 54 (.map (some gi)) (.int .i64 v) false).run Try.prog w' = .ok (.map (some bi)) w' ∧ (Builtin.len_ #[53] 3 #[.map (some bo)]).run Try.prog w' = .ok (.int .i64 0) w' ∧ (Builtin.len_ #[53] 3 #[.map (some bi)]).run Try.prog w' = .ok (.int .i64 0) w') (ds := [22]) (bA 25 0) (by kernel_rfl) rfl rfl ⟨q1, q2, q3, l1, l2, n1, n2⟩ (fun hHeld => ?_)
  refine with_tabW tb25_1.tab1 tb25_1.bits1 (fun HT_ HW_ => ?_)
  refine pw_ 0 5 (bA 25 1) HT_.out ?_
  refine pw_ 1 6 (bA 25 3) HT_.out ?_
  refine pw_ 2 7 (bA 25 7) HT_.out ?_
  refine pw_ 4 9 (bA 25 23) HT_.out ?_
  refine pw_ 7 12 (bA 25 151) HT_.out ?_
  refine pw_ 8 13 (bA 25 407) HT_.out ?_
  refine pw_ 9 14 (bA 25 919) HT_.out ?_
  refine pw_ 11 16 (bA 25 2967) HT_.out ?_
  refine tw_ 3 8 (bA 25 2975) HT_.out HW_.out hHeld (hv := by rintro w' ⟨s0, s1, s2, s3, s4, s5, s6⟩; go_simp; with_reducible rfl) (h := ?_)
  refine tw_ 5 10 (bA 25 3007) HT_.out HW_.out hHeld (hv := by rintro w' ⟨s0, s1, s2, s3, s4, s5, s6⟩; go_simp; with_reducible rfl) (h := ?_)
  refine tw_ 6 11 (bA 25 3071) HT_.out HW_.out hHeld (hv := by rintro w' ⟨s0, s1, s2, s3, s4, s5, s6⟩; go_simp; with_reducible rfl) (h := ?_)
  refine tw_ 10 15 (bA 25 4095) HT_.out HW_.out hHeld (hv := by rintro w' ⟨s0, s1, s2, s3, s4, s5, s6⟩; go_simp; with_reducible rfl) (h := ?_)
  refine tw_ 12 17 (bA 25 8191) HT_.out HW_.out hHeld (hv := by rintro w' ⟨s0, s1, s2, s3, s4, s5, s6⟩; go_simp; with_reducible rfl) (h := ?_)
  refine tw_ 13 18 (bA 25 16383) HT_.out HW_.out hHeld (hv := by rintro w' ⟨s0, s1, s2, s3, s4, s5, s6⟩; go_simp; with_reducible rfl) (h := ?_)
  refine pw_ 14 19 (bA 25 32767) HT_.out ?_
  refine pw_ 15 20 (bA 25 65535) HT_.out ?_
  refine pw_ 16 21 (bA 25 131071) HT_.out ?_
  refine pw_ 17 22 (bA 25 262143) HT_.out ?_
  refine pw_ 18 23 (bA 25 524287) HT_.out ?_
  refine pw_ 19 24 (bA 25 1048575) HT_.out ?_
  refine pw_ 21 26 (bA 25 3145727) HT_.out ?_
  refine tw_ 20 25 (bA 25 4194303) HT_.out HW_.out hHeld (hv := by rintro w' ⟨s0, s1, s2, s3, s4, s5, s6⟩; go_simp; with_reducible rfl) (h := ?_)
  refine last_ (i := 22) (N := some 27) (bA 25 8388607) rfl rfl (one_of HT_.out (by kernel_rfl)) (by decide) (fun K hK => ?_)
  refine gw_ Try.func51 #[.pointer (some ⟨gp, 0, none⟩), .int .i64 v] ?_
  with_reducible refine (HC.out).mono ?_
  rintro e w1 ⟨rfl, hk1, hP1⟩
  refine ⟨_, rfl, ?_⟩
  refine hK.out _ _ ?_; clear hK K
  refine norm_ (a' := ?_) ?_ ?_
  rotate_left
  · show Act.put _ (some 27) _ = _
    simp only [Act.put, pA, pB, pC, pD, pE]; rfl
  refine pw_ 23 28 (bA 25 16777215) HT_.out ?_
  refine pw_ 24 29 (bA 25 33554431) HT_.out ?_
  refine done_ (done_of HT_.out (by kernel_rfl)) ?_
  clear hHeld HT_ HW_; clear q1 q2 q3 l1 l2 n1 n2 HC
  obtain ⟨h, ha⟩ := HH.out
  have hM1 : CdM w1 gc ga go gi gp gm lk (arF arcs) (vtF cls ob) (vtF cls ib) ob ib (ouF arcs) (inF arcs) (fun v => cls v ≠ none) tg (ext pb w w1) (ext cb w w1) := h.m.part (w' := w1) ⟨hk1.os, hk1.tape, hk1.output, hk1.size, hk1.block⟩
  have hgo : go ≠ gi := tgne h.m.t.o h.m.t.i (by simp)
  have q1 := hM1.hc.cell 1 rfl
  obtain ⟨o1, hd1, hm3⟩ := MQ.delete (P := Try.prog) (T := 54) hM1.ho Try.underlying54 Try.underlying3 v 0 3
  rw [vtF_del] at hm3
  have hat1 : At (putObj w1 go o1) gc _ _ := hM1.hc.putObj (hM1.ho.ne hM1.hc)
  have q2 := hat1.cell 2 rfl
  obtain ⟨o2, hd2, hm4⟩ := MQ.delete (P := Try.prog) (T := 54) (MQ.put2 hM1.hi hgo.symm o1) Try.underlying54 Try.underlying3 v 0 3
  rw [vtF_del] at hm4
  have HE := Lib.hid (dropv_end h ha hM1 hP1 ⟨hk1.os, hk1.tape, hk1.output, hk1.size, hk1.block⟩ (W := putObj (putObj w1 go o1) gi o2) ⟨kpt_put (kpt_put (Kpt.refl _ w1) (fun _ => .inl rfl) o1) (fun _ => .inr rfl) o2, MQ.put2 hm3 hgo o2, hm4, hgo⟩ (hat1.putObj (hM1.hi.ne hM1.hc)))
  clear h ha hM1 hP1 hk1 hgo hat1 hm3 hm4 HH
  go_wp2
  go_ret
  exact ⟨rfl, HE.out⟩
end
end Go.Proofs.Ythomnpgpbhpojaa.Cd

/- cond: AddArc, where it changes nothing. -/
namespace Go.Proofs.Ythomnpgpbhpojaa.Cd
open Go Go.RowKit Go.MapKept Go.Proofs.Ythomnpgpbhpojaa.Mem Go.Proofs.Ythomnpgpbhpojaa.Sl Go.Proofs.Ythomnpgpbhpojaa.Lw Go.Proofs.Ythomnpgpbhpojaa.Pt Go.Proofs.YthomnpgpbhpojaaW.PrintWords Go.Proofs.YthomnpgpbhpojaaW.PrintLast
attribute [local go_sem ↓] Go.wp_at_zero Go.wp_at_succ
set_option linter.unusedSimpArgs false
set_option linter.unusedVariables false

section
variable {w w' W W' w1 : World} {gc ga go gi gp gm : Nat} {lk : Int} {arcs : Int → Option (Int × Int)} {ob ib : Int → Nat} {cls : Int → Option Nat} {row : Nat → List Int} {val : Nat → Value} {tg : Nat → Nat × Int} {pb cb : Nat → Prop} {fa fo fi : Int → Option Value} {Fo Fi : Int → Int → Option Value} {D : Int → Prop}
theorem zero_arc : ∀ w : World, (zeroValue 69).run Try.prog w = .ok (.agg #[.int .i64 0, .int .i64 0]) w := fun w => by kernel_rfl
theorem lookE (h : MQ w ga (arF arcs)) (e : Int) : (Instr.lookup 53 (.map (some ga)) (.int .i64 e) true).run Try.prog w = .ok (.tuple #[(arF arcs e).getD (.agg #[.int .i64 0, .int .i64 0]), .bool (arF arcs e).isSome]) w :=
  h.lookup_ok Try.underlying53 Try.underlying3 zero_arc e
theorem eqm_none (w : World) : (binOp .eql 53 (.map none) (.map none)).run Try.prog w = .ok (.bool true) w := by kernel_rfl
theorem eqm_some (b : Nat) (w : World) : (binOp .eql 53 (.map (some b)) (.map none)).run Try.prog w = .ok (.bool false) w := by kernel_rfl
set_option maxHeartbeats 4000000 in
set_option maxRecDepth 100000 in
theorem adda_twice (h : CdS w gc ga go gi gp gm lk arcs ob ib cls row val tg pb cb) (e u v : Int) (he : arcs e ≠ none) :
    Calls Try.prog 13 #[.pointer (some ⟨gc, 0, none⟩), .int .i64 e, .int .i64 u, .int .i64 v] w fun e w' => e = .returned (.int .i64 2) ∧ Below w.heap.size w w' := by
  have q0 := h.m.hc.cell 0 rfl
  have l0 := lookE h.m.ha e
  obtain ⟨p, hp⟩ : ∃ p, arcs e = some p := by
    cases hx : arcs e with
    | none => exact absurd hx he
    | some p => exact ⟨p, rfl⟩
  have he2 : arF arcs e = some (.agg #[.int .i64 p.1, .int .i64 p.2]) := by simp [arF, hp, aV]
  rw [he2, Option.getD_some, Option.isSome_some] at l0
  clear h he hp he2
  go_enter Try.func13, Try.ntmps13
  go_wp2
  go_ret
  exact ⟨rfl, (Below.refl w.heap.size w).alloc (Nat.le_refl _) _⟩
set_option maxHeartbeats 4000000 in
set_option maxRecDepth 100000 in
theorem adda_nou (h : CdS w gc ga go gi gp gm lk arcs ob ib cls row val tg pb cb) (e u v : Int) (he : arcs e = none) (hu : cls u = none) :
    Calls Try.prog 13 #[.pointer (some ⟨gc, 0, none⟩), .int .i64 e, .int .i64 u, .int .i64 v] w fun e w' => e = .returned (.int .i64 5) ∧ Below w.heap.size w w' := by
  have q0 := h.m.hc.cell 0 rfl
  have l0 := lookE h.m.ha e
  have he2 : arF arcs e = none := by simp [arF, he]
  rw [he2, Option.getD_none, Option.isSome_none] at l0
  have hb := ((Below.refl w.heap.size w).alloc (Nat.le_refl _) (.cells #[.int .i64 0, .int .i64 0] 69))
  have HB := Lib.hid hb
  have hh := h.below hb
  have q1 := hh.m.hc.cell 1 rfl
  have em0 := eqm_none
  have em1 := eqm_some
  have l1 := lookV hh.m.ho u
  rw [vtF_none hu, Option.getD_none] at l1
  clear h he he2 hu hh hb
  go_enter Try.func13, Try.ntmps13
  go_wp2
  go_ret
  exact ⟨rfl, HB.out⟩
set_option maxHeartbeats 4000000 in
set_option maxRecDepth 100000 in
theorem adda_nov (h : CdS w gc ga go gi gp gm lk arcs ob ib cls row val tg pb cb) (e u v : Int) (he : arcs e = none) (hu : cls u ≠ none) (hv : cls v = none) :
    Calls Try.prog 13 #[.pointer (some ⟨gc, 0, none⟩), .int .i64 e, .int .i64 u, .int .i64 v] w fun e w' => e = .returned (.int .i64 5) ∧ Below w.heap.size w w' := by
  have q0 := h.m.hc.cell 0 rfl
  have l0 := lookE h.m.ha e
  have he2 : arF arcs e = none := by simp [arF, he]
  rw [he2, Option.getD_none, Option.isSome_none] at l0
  have hb := ((Below.refl w.heap.size w).alloc (Nat.le_refl _) (.cells #[.int .i64 0, .int .i64 0] 69))
  have HB := Lib.hid hb
  have hh := h.below hb
  have q1 := hh.m.hc.cell 1 rfl
  have em0 := eqm_none
  have em1 := eqm_some
  have l1 := lookV hh.m.ho u
  have l2 := lookV hh.m.ho v
  rw [vtF_some hu, Option.getD_some] at l1
  rw [vtF_none hv, Option.getD_none] at l2
  clear h he he2 hu hv hh hb
  go_enter Try.func13, Try.ntmps13
  go_wp2
  go_ret
  exact ⟨rfl, HB.out⟩
end
end Go.Proofs.Ythomnpgpbhpojaa.Cd

/- cond: AddArc's three maps. -/
namespace Go.Proofs.Ythomnpgpbhpojaa.Cd
open Go Go.RowKit Go.MapKept Go.Proofs.Ythomnpgpbhpojaa.Mem Go.Proofs.Ythomnpgpbhpojaa.Sl Go.Proofs.Ythomnpgpbhpojaa.Lw Go.Proofs.Ythomnpgpbhpojaa.Pt Go.Proofs.YthomnpgpbhpojaaW.PrintWords Go.Proofs.YthomnpgpbhpojaaW.PrintLast
attribute [local go_sem ↓] Go.wp_at_zero Go.wp_at_succ
set_option linter.unusedSimpArgs false
set_option linter.unusedVariables false

section
variable {w w' W W' w1 : World} {gc ga go gi gp gm : Nat} {lk : Int} {arcs : Int → Option (Int × Int)} {ob ib : Int → Nat} {cls : Int → Option Nat} {row : Nat → List Int} {val : Nat → Value} {tg : Nat → Nat × Int} {pb cb : Nat → Prop} {fa fo fi fu fv : Int → Option Value} {Fo Fi : Int → Int → Option Value} {D : Int → Prop}
structure AAs (w1 : World) (a b c : Nat) (fa fu fv : Int → Option Value) (W : World) : Prop where
  k : Kpt (fun k => k = a ∨ k = b ∨ k = c) w1 W
  ma : MQ W a fa
  mb : MQ W b fu
  mc : MQ W c fv
  ab : a ≠ b
  ac : a ≠ c
  bc : b ≠ c
theorem AAs.rot {a b c : Nat} (h : AAs w1 a b c fa fu fv W) : AAs w1 b c a fu fv fa W := ⟨h.k.mono (fun k _ e => e.elim (fun e => .inr (.inr e)) (fun e => e.elim .inl fun e => .inr (.inl e))), h.mb, h.mc, h.ma, h.bc, h.ab.symm, h.ac.symm⟩
theorem AAs.ent {a b c : Nat} (h : AAs w1 a b c fa fu fv W) (e : Int) : ∃ (x : Value) (st : Nat) (o : Obj), (Instr.mapEntry 53 (.map (some a)) (.int .i64 e)).run Try.prog W = .ok (.tuple #[x, .int .i64 (st : Int)]) (putObj W a o) ∧
    AAs w1 a b c (updV fa e (some x)) fu fv (putObj W a o) ∧ MS (putObj W a o) a (updV fa e (some x)) e st := by
  obtain ⟨st, o, hr, hms⟩ := h.ma.entry (P := Try.prog) (T := 53) Try.underlying53 Try.underlying3 zero_arc e
  exact ⟨_, st, o, hr, ⟨kpt_put h.k (fun _ => .inl rfl) o, hms.mq, MQ.put2 h.mb h.ab.symm o, MQ.put2 h.mc h.ac.symm o, h.ab, h.ac, h.bc⟩, hms⟩
theorem AAs.st {a b c : Nat} {e : Int} {x : Option Value} {st : Nat} (h : AAs w1 a b c (updV fa e x) fu fv W) (hs : MS W a (updV fa e x) e st) (u : Value) : ∃ (o : Obj), (Instr.entryStore 53 (.map (some a)) (.int .i64 (st : Int)) u).run Try.prog W = .ok () (putObj W a o) ∧ AAs w1 a b c (updV fa e (some u)) fu fv (putObj W a o) := by
  obtain ⟨o, hr, hm⟩ := hs.store (P := Try.prog) (T := 53) u
  rw [updV_twice] at hm
  exact ⟨o, hr, kpt_put h.k (fun _ => .inl rfl) o, hm, MQ.put2 h.mb h.ab.symm o, MQ.put2 h.mc h.ac.symm o, h.ab, h.ac, h.bc⟩
def addA (arcs : Int → Option (Int × Int)) (e u v : Int) : Int → Option (Int × Int) := fun x => if x = e then some (u, v) else arcs x
theorem arF_add {e u v : Int} : updV (arF arcs) e (some (aV (u, v))) = arF (addA arcs e u v) := by
  funext x
  unfold updV arF addA
  by_cases h : x = e <;> simp [h]
theorem ouF_add {e u v : Int} : updV (ouF arcs u) e (some (aV (u, v))) = ouF (addA arcs e u v) u := by
  funext x
  unfold updV ouF addA
  by_cases h : x = e <;> simp [h]
theorem inF_add {e u v : Int} : updV (inF arcs v) e (some (aV (u, v))) = inF (addA arcs e u v) v := by
  funext x
  unfold updV inF addA
  by_cases h : x = e <;> simp [h]
theorem ouF_else {e u v x : Int} (he : arcs e = none) (hx : x ≠ u) : ouF (addA arcs e u v) x = ouF arcs x := by
  funext y
  unfold ouF addA
  by_cases h : y = e
  · subst h
    simp [he, hx.symm]
  · simp [h]
theorem inF_else {e u v x : Int} (he : arcs e = none) (hx : x ≠ v) : inF (addA arcs e u v) x = inF arcs x := by
  funext y
  unfold inF addA
  by_cases h : y = e
  · subst h
    simp [he, hx.symm]
  · simp [h]
theorem adda_end {e u v : Int} (h : CdS w1 gc ga go gi gp gm lk arcs ob ib cls row val tg pb cb) (hu : cls u ≠ none) (hv : cls v ≠ none) (he : arcs e = none) (hf : ∃ K : List Int, K.length ≤ 999 ∧ ∀ e, arcs e ≠ none → e ∈ K)
    (hA : AAs w1 ga (ob u) (ib v) (updV (arF arcs) e (some (aV (u, v)))) (updV (ouF arcs u) e (some (aV (u, v)))) (updV (inF arcs v) e (some (aV (u, v)))) W) :
    CdS W gc ga go gi gp gm lk (addA arcs e u v) ob ib cls row val tg pb cb := by
  rw [arF_add, ouF_add, inF_add] at hA
  have hk := hA.k
  have hcase : ∀ k, (k = ga ∨ k = ob u ∨ k = ib v) → tg k = (0, 0) ∨ tg k = (4, u) ∨ tg k = (5, v) := fun k hk => hk.elim (fun e => .inl (e ▸ h.m.t.a)) fun e => e.elim (fun e => .inr (.inl (e ▸ h.m.t.ob u hu))) fun e => .inr (.inr (e ▸ h.m.t.ib v hv))
  have hcb : ∀ k, (k = ga ∨ k = ob u ∨ k = ib v) → ¬ pb k := fun k hk => hk.elim (fun e => e ▸ h.m.na) fun e => e.elim (fun e => e ▸ h.m.nob u hu) fun e => e ▸ h.m.nib v hv
  have hq : ∀ {k : Nat} {f : Int → Option Value}, MQ w1 k f → (tg k ≠ (0, 0) ∧ tg k ≠ (4, u) ∧ tg k ≠ (5, v)) → MQ W k f := fun hm hn => hm.move (hk.block _ hm.lt fun hh => (hcase _ hh).elim hn.1 fun e => e.elim hn.2.1 hn.2.2)
  have hmq : ∀ {k g : Nat} {cs : List Value} {T : TypeId}, At w1 g cs T → ¬ (g = ga ∨ g = ob u ∨ g = ib v) := fun hg hh => hh.elim (h.m.ha.ne hg) fun hh => hh.elim ((h.m.oo u hu).ne hg) ((h.m.ii v hv).ne hg)
  refine ⟨⟨h.m.hc.kept hk (hmq (k := 0) h.m.hc), hA.ma, hq h.m.ho ?_, hq h.m.hi ?_, fun x hx => ?_, fun x hx => ?_, h.m.t, h.m.nc, h.m.na, h.m.no, h.m.ni, h.m.nob, h.m.nib, h.m.cc, h.m.ca, h.m.co, h.m.ci, h.m.cob, h.m.cib, h.m.cp, h.m.cgp, fun k hh => Nat.lt_of_lt_of_le (h.m.lt k hh) hk.size⟩,
    PtS.keep h.p hk (hmq (k := 0) h.p.hp) fun k hp hh => hcb k hh hp, fun x p hp => ?_, ?_⟩
  · rw [h.m.t.o]; simp
  · rw [h.m.t.i]; simp
  · by_cases e1 : x = u
    · subst e1; exact hA.mb
    · rw [ouF_else he e1]
      exact hq (h.m.oo x hx) (by rw [h.m.t.ob x hx]; simp [e1])
  · by_cases e1 : x = v
    · subst e1; exact hA.mc
    · rw [inF_else he e1]
      exact hq (h.m.ii x hx) (by rw [h.m.t.ib x hx]; simp [e1])
  · unfold addA at hp
    by_cases e1 : x = e
    · rw [if_pos e1] at hp
      cases hp
      exact ⟨hu, hv⟩
    · rw [if_neg e1] at hp
      exact h.en x p hp
  · obtain ⟨K, hK, hKa⟩ := hf
    refine ⟨e :: K, by simp; omega, fun x hx => ?_⟩
    unfold addA at hx
    by_cases e1 : x = e
    · simp [e1]
    · rw [if_neg e1] at hx
      exact List.mem_cons_of_mem _ (hKa x hx)
theorem CdS.grow (h : CdS W gc ga go gi gp gm lk arcs ob ib cls row val tg pb cb) (w : World) : CdS W gc ga go gi gp gm lk arcs ob ib cls row val tg pb (ext cb w W) :=
  ⟨⟨h.m.hc, h.m.ha, h.m.ho, h.m.hi, h.m.oo, h.m.ii, h.m.t, h.m.nc, h.m.na, h.m.no, h.m.ni, h.m.nob, h.m.nib, .inl h.m.cc, .inl h.m.ca, .inl h.m.co, .inl h.m.ci, fun x hx => .inl (h.m.cob x hx), fun x hx => .inl (h.m.cib x hx), fun k hk => .inl (h.m.cp k hk), .inl h.m.cgp, fun k hk => hk.elim (h.m.lt k) fun e => e.2⟩, h.p, h.en, h.fin⟩
theorem CdS.mono {cb' : Nat → Prop} (h : CdS W gc ga go gi gp gm lk arcs ob ib cls row val tg pb cb) (hs : ∀ k, cb k → cb' k) (hl : ∀ k, cb' k → k < W.heap.size) : CdS W gc ga go gi gp gm lk arcs ob ib cls row val tg pb cb' :=
  ⟨⟨h.m.hc, h.m.ha, h.m.ho, h.m.hi, h.m.oo, h.m.ii, h.m.t, h.m.nc, h.m.na, h.m.no, h.m.ni, h.m.nob, h.m.nib, hs _ h.m.cc, hs _ h.m.ca, hs _ h.m.co, hs _ h.m.ci, fun x hx => hs _ (h.m.cob x hx), fun x hx => hs _ (h.m.cib x hx), fun k hk => hs _ (h.m.cp k hk), hs _ h.m.cgp, hl⟩, h.p, h.en, h.fin⟩
theorem CdS.kept {p : Nat → Prop} (h : CdS W gc ga go gi gp gm lk arcs ob ib cls row val tg pb cb) (hk : Kpt p W W') (hp : ∀ k, cb k → ¬ p k) : CdS W' gc ga go gi gp gm lk arcs ob ib cls row val tg pb cb :=
  ⟨⟨h.m.hc.kept hk (hp _ h.m.cc), h.m.ha.move (hk.block _ h.m.ha.lt (hp _ h.m.ca)), h.m.ho.move (hk.block _ h.m.ho.lt (hp _ h.m.co)), h.m.hi.move (hk.block _ h.m.hi.lt (hp _ h.m.ci)), fun x hx => (h.m.oo x hx).move (hk.block _ (h.m.oo x hx).lt (hp _ (h.m.cob x hx))), fun x hx => (h.m.ii x hx).move (hk.block _ (h.m.ii x hx).lt (hp _ (h.m.cib x hx))),
    h.m.t, h.m.nc, h.m.na, h.m.no, h.m.ni, h.m.nob, h.m.nib, h.m.cc, h.m.ca, h.m.co, h.m.ci, h.m.cob, h.m.cib, h.m.cp, h.m.cgp, fun k hk' => Nat.lt_of_lt_of_le (h.m.lt k hk') hk.size⟩, PtS.keep h.p hk (hp _ h.m.cgp) fun k hk' => hp k (h.m.cp k hk'), h.en, h.fin⟩
theorem vtF_re {cls' : Int → Option Nat} (hn : ∀ x, cls' x = none ↔ cls x = none) (f : Int → Nat) : vtF cls' f = vtF cls f := by
  funext x
  unfold vtF
  have := hn x
  cases h1 : cls x with
  | none => rw [this.2 h1]
  | some b =>
    cases h2 : cls' x with
    | none => rw [this.1 h2] at h1; cases h1
    | some c => rfl
theorem CdS.reparts {cls' : Int → Option Nat} {row' : Nat → List Int} {val' : Nat → Value} (h : CdS W gc ga go gi gp gm lk arcs ob ib cls row val tg pb cb) (hk : Kpt pb W W') (hn : ∀ x, cls' x = none ↔ cls x = none) (hp : PtS W' gp gm cls' row' val' (ext pb W W')) :
    CdS W' gc ga go gi gp gm lk arcs ob ib cls' row' val' tg (ext pb W W') (ext cb W W') := by
  have hm := h.m.part hk
  refine ⟨?_, hp, fun e p he => ⟨fun e1 => (h.en e p he).1 ((hn _).1 e1), fun e1 => (h.en e p he).2 ((hn _).1 e1)⟩, h.fin⟩
  rw [vtF_re hn, vtF_re hn]
  have hD : (fun v => cls' v ≠ none) = fun v => cls v ≠ none := by
    funext v
    simp only [ne_eq, hn]
  rw [hD]
  exact hm

def Joined (cls cls' : Int → Option Nat) (T : List Int) : Prop :=
  (∀ x, cls' x = none ↔ cls x = none) ∧ ∀ x y, cls x ≠ none → cls y ≠ none → (cls' x = cls' y ↔ cls x = cls y ∨ ((∃ w ∈ T, cls x = cls w) ∧ ∃ w ∈ T, cls y = cls w))
theorem Joined.refl (u : Int) : Joined cls cls [u] := ⟨fun _ => Iff.rfl, fun x y _ _ => ⟨.inl, fun h => h.elim id fun ⟨⟨a, ha, h1⟩, ⟨b, hb, h2⟩⟩ => by
  simp only [List.mem_singleton] at ha hb
  subst ha hb
  exact h1.trans h2.symm⟩⟩
theorem Joined.congr {c1 : Int → Option Nat} {T T' : List Int} (h : Joined cls c1 T) (hT : ∀ x, x ∈ T ↔ x ∈ T') : Joined cls c1 T' :=
  ⟨h.1, fun x y hx hy => by simpa only [hT] using h.2 x y hx hy⟩
theorem Joined.no {c1 : Int → Option Nat} {T : List Int} {u x : Int} (h : Joined cls c1 T) (hu : u ∈ T) (hun : cls u ≠ none) (hxn : cls x ≠ none) (he : c1 u = c1 x) : Joined cls c1 (T ++ [x]) := by
  have hx : ∃ w ∈ T, cls x = cls w := by
    rcases (h.2 u x hun hxn).1 he with h1 | ⟨_, h1⟩
    · exact ⟨u, hu, h1.symm⟩
    · exact h1
  have hT : ∀ a, (∃ w ∈ T ++ [x], cls a = cls w) ↔ ∃ w ∈ T, cls a = cls w := fun a => by
    constructor
    · rintro ⟨w, hw, h1⟩
      rcases List.mem_append.1 hw with hw | hw
      · exact ⟨w, hw, h1⟩
      · obtain rfl : w = x := by simpa using hw
        obtain ⟨w2, hw2, h2⟩ := hx
        exact ⟨w2, hw2, h1.trans h2⟩
    · rintro ⟨w, hw, h1⟩
      exact ⟨w, List.mem_append_left _ hw, h1⟩
  refine ⟨h.1, fun a b ha hb => ?_⟩
  rw [h.2 a b ha hb, hT a, hT b]
theorem Joined.yes {c1 : Int → Option Nat} {T : List Int} {u x : Int} {bu bx bl bm : Nat} (h : Joined cls c1 T) (hu : u ∈ T) (hun : cls u ≠ none) (hxn : cls x ≠ none) (h1 : c1 u = some bu) (h2 : c1 x = some bx) (hne : bu ≠ bx) (hb : (bl = bu ∧ bm = bx) ∨ (bl = bx ∧ bm = bu)) :
    Joined cls (jcls c1 bl bm) (T ++ [x]) := by
  have hlm : bl ≠ bm := by rcases hb with ⟨rfl, rfl⟩ | ⟨rfl, rfl⟩; exact hne; exact hne.symm
  have hset : ∀ a, (c1 a = some bl ∨ c1 a = some bm) ↔ (c1 a = c1 u ∨ c1 a = c1 x) := fun a => by
    rw [h1, h2]
    rcases hb with ⟨rfl, rfl⟩ | ⟨rfl, rfl⟩
    · exact Iff.rfl
    · exact or_comm
  have hj : ∀ a b, c1 a ≠ none → (jcls c1 bl bm a = jcls c1 bl bm b ↔ c1 a = c1 b ∨ ((c1 a = some bl ∨ c1 a = some bm) ∧ (c1 b = some bl ∨ c1 b = some bm))) := fun a b ha => by
    unfold jcls
    by_cases ea : c1 a = some bm <;> by_cases eb : c1 b = some bm
    · simp [ea, eb]
    · rw [if_pos ea, if_neg eb]
      constructor
      · intro e; exact .inr ⟨.inr ea, .inl e.symm⟩
      · rintro (e | ⟨_, e | e⟩)
        · exact absurd (e.symm.trans ea) eb
        · exact e.symm
        · exact absurd e eb
    · rw [if_neg ea, if_pos eb]
      constructor
      · intro e; exact .inr ⟨.inl e, .inr eb⟩
      · rintro (e | ⟨e | e, _⟩)
        · exact absurd (e.trans eb) ea
        · exact e
        · exact absurd e ea
    · rw [if_neg ea, if_neg eb]
      constructor
      · exact .inl
      · rintro (e | ⟨e | e, e2 | e2⟩)
        · exact e
        · exact e.trans e2.symm
        · exact absurd e2 eb
        · exact absurd e ea
        · exact absurd e ea
  have htu : ∀ a, cls a ≠ none → (c1 a = c1 u ↔ ∃ w ∈ T, cls a = cls w) := fun a ha => by
    rw [h.2 a u ha hun]
    constructor
    · rintro (e | ⟨e, _⟩)
      · exact ⟨u, hu, e⟩
      · exact e
    · intro e; exact .inr ⟨e, u, hu, rfl⟩
  have hnx : ¬ ∃ w ∈ T, cls x = cls w := fun e => by
    have := (htu x hxn).2 e
    rw [h1, h2] at this
    cases this
    exact hne rfl
  have htx : ∀ a, cls a ≠ none → (c1 a = c1 x ↔ cls a = cls x) := fun a ha => by
    rw [h.2 a x ha hxn]
    constructor
    · rintro (e | ⟨_, e⟩)
      · exact e
      · exact absurd e hnx
    · exact .inl
  have hT : ∀ a, (∃ w ∈ T ++ [x], cls a = cls w) ↔ (∃ w ∈ T, cls a = cls w) ∨ cls a = cls x := fun a => by
    constructor
    · rintro ⟨w, hw, h1⟩
      rcases List.mem_append.1 hw with hw | hw
      · exact .inl ⟨w, hw, h1⟩
      · obtain rfl : w = x := by simpa using hw
        exact .inr h1
    · rintro (⟨w, hw, h1⟩ | e)
      · exact ⟨w, List.mem_append_left _ hw, h1⟩
      · exact ⟨x, by simp, e⟩
  refine ⟨fun a => ?_, fun a b ha hb => ?_⟩
  · rw [← h.1 a]
    unfold jcls
    by_cases e : c1 a = some bm
    · rw [if_pos e, e]; simp
    · rw [if_neg e]
  · have ha1 : c1 a ≠ none := fun e => ha ((h.1 a).1 e)
    rw [hj a b ha1, hset a, hset b, h.2 a b ha hb, hT a, hT b, htu a ha, htu b hb, htx a ha, htx b hb]
    constructor
    · rintro ((e | ⟨e1, e2⟩) | e)
      · exact .inl e
      · exact .inr ⟨.inl e1, .inl e2⟩
      · exact .inr e
    · rintro (e | e)
      · exact .inl (.inl e)
      · exact .inr e
theorem CdS.rowle (h : CdS W gc ga go gi gp gm lk arcs ob ib cls row val tg pb cb) {V : List Int} (hV : ∀ x, cls x ≠ none → x ∈ V) : ∀ v b, cls v = some b → (row b).length ≤ V.length := fun v b hv =>
  nodup_le (h.p.r.nd v b hv) fun x hx => hV x (by rw [(h.p.r.mem v b hv x).1 hx]; simp)
theorem join_step {c0 : Int → Option Nat} {T V : List Int} (h : CdS W gc ga go gi gp gm lk arcs ob ib cls row val tg pb cb) (hJ : Joined c0 cls T) (u x : Int) (hu : u ∈ T) (hun : c0 u ≠ none) (hxn : c0 x ≠ none) (hV : ∀ x, c0 x ≠ none → x ∈ V) (hVl : V.length ≤ 500) :
    Calls Try.prog 36 #[.pointer (some ⟨gp, 0, none⟩), .int .i64 u, .int .i64 x] W fun e W' => ∃ b, e = .returned (.bool b) ∧ ∃ cls' row' val' pb' cb', CdS W' gc ga go gi gp gm lk arcs ob ib cls' row' val' tg pb' cb' ∧ Joined c0 cls' (T ++ [x]) ∧ Kpt pb W W' ∧
      (∀ k, cb' k → ext cb W W' k) ∧ ∀ k, pb' k → ext pb W W' k := by
  have hVc : ∀ x, cls x ≠ none → x ∈ V := fun x hx => hV x fun e => hx ((hJ.1 x).2 e)
  cases h1 : cls u with
  | none => exact absurd ((hJ.1 u).1 h1) hun
  | some bu =>
    cases h2 : cls x with
    | none => exact absurd ((hJ.1 x).1 h2) hxn
    | some bx =>
      by_cases e : bu = bx
      · subst e
        refine (join_no h.p u x (.inr (.inr (h1.trans h2.symm)))).mono ?_
        rintro e W' ⟨rfl, hb⟩
        exact ⟨_, rfl, cls, row, val, pb, cb, h.below hb, hJ.no hu hun hxn (h1.trans h2.symm), Kpt.of_below hb, fun k hk => .inl hk, fun k hk => .inl hk⟩
      · refine (join_calls h.p u x h1 h2 e fun v b hv => Nat.le_trans (h.rowle hVc v b hv) (by omega)).mono ?_
        rintro e' W' ⟨rfl, hk, bl, bm, row', val', hbl, hp⟩
        have hJ' := hJ.yes hu hun hxn h1 h2 e hbl
        exact ⟨_, rfl, _, row', val', _, _, h.reparts hk (fun y => (hJ'.1 y).trans (hJ.1 y).symm) hp, hJ', hk, fun k hk => hk, fun k hk => hk⟩
end
end Go.Proofs.Ythomnpgpbhpojaa.Cd
