/- cond: DropVertex. -/
import Derived.Test.YthomnpgpbhpojaaGd13
namespace Go.Proofs.Ythomnpgpbhpojaa.Cd
open Go Go.RowKit Go.MapKept Go.Proofs.Ythomnpgpbhpojaa.Mem Go.Proofs.Ythomnpgpbhpojaa.Sl Go.Proofs.Ythomnpgpbhpojaa.Lw Go.Proofs.Ythomnpgpbhpojaa.Pt Go.Proofs.YthomnpgpbhpojaaW.PrintWords Go.Proofs.YthomnpgpbhpojaaW.PrintLast
attribute [local go_sem ↓] Go.wp_at_zero Go.wp_at_succ
set_option linter.unusedSimpArgs false
set_option linter.unusedVariables false

section
variable {w w' W W' w1 : World} {gc ga go gi gp gm : Nat} {lk : Int} {arcs : Int → Option (Int × Int)} {ob ib : Int → Nat} {cls : Int → Option Nat} {row : Nat → List Int} {val : Nat → Value} {tg : Nat → Nat × Int} {pb cb : Nat → Prop} {fa fo fi : Int → Option Value} {Fo Fi : Int → Int → Option Value} {D : Int → Prop}
theorem und_map : Try.prog.underlying 53 = some (.map (Try.prog.mapKeyOf 53) (Try.prog.mapElemOf 53)) := by
  simp only [Program.mapKeyOf, Program.mapElemOf, Try.underlying53]
theorem MQ.len {b : Nat} {f : Int → Option Value} (h : MQ w b f) {K : List Int} (hK : ∀ k, f k ≠ none → k ∈ K) :
    ∃ n : Nat, (Builtin.len_ #[53] 3 #[.map (some b)]).run Try.prog w = .ok (.int .i64 (n : Int)) w ∧ n ≤ K.length ∧ (n = 0 ↔ ∀ k, f k = none) := by
  obtain ⟨es, clock, hb, hs, hk, hf⟩ := h
  have hkeys : ∀ x ∈ es.toList, ∃ a : Int, x.key = .int .i64 a ∧ f a ≠ none := fun x hx => by
    obtain ⟨a, v, h1, h2⟩ := hk x hx
    refine ⟨a, h1, fun e => ?_⟩
    have := (hf a v).2 ⟨x, hx, h1, h2⟩
    rw [e] at this
    cases this
  have hlen : es.size ≤ K.length := by
    have hn := (stamped_iff es clock).1 hs
    let g : MapEntry → Int := fun x => match x.key with | .int _ a => a | _ => 0
    have h1 : (es.toList.map g).Nodup := by
      rw [List.Nodup, List.pairwise_map]
      refine List.Pairwise.imp_of_mem (fun {x y} hx hy hne e => ?_) hn.2.2
      obtain ⟨a, h1, _⟩ := hkeys x hx
      obtain ⟨b', h2, _⟩ := hkeys y hy
      simp only [g, h1, h2] at e
      exact hne (by rw [h1, h2, e])
    have h2 := nodup_le h1 (m := K) fun k hk => by
      obtain ⟨x, hx, rfl⟩ := List.mem_map.1 hk
      obtain ⟨a, h1, h2⟩ := hkeys x hx
      simp only [g, h1]
      exact hK a h2
    simpa using h2
  refine ⟨es.size, run_len_map _ _ _ b es clock und_map hb, hlen, fun e k => ?_, fun hn => ?_⟩
  · cases hx : f k with
    | none => rfl
    | some v =>
      obtain ⟨x, hx, _⟩ := (hf k v).1 hx
      have : es.toList.length = 0 := by simpa using e
      rw [List.length_eq_zero_iff.1 this] at hx
      cases hx
  · rcases Nat.eq_zero_or_pos es.size with e | e
    · exact e
    · have hx : es[0] ∈ es.toList := by simp
      obtain ⟨a, _, h2⟩ := hkeys _ hx
      exact absurd (hn a) h2
theorem lookV {g : Nat} (h : MQ w g (vtF cls ob)) (v : Int) : (Instr.lookup 54 (.map (some g)) (.int .i64 v) false).run Try.prog w = .ok ((vtF cls ob v).getD (.map none)) w :=
  h.lookup Try.underlying54 Try.underlying3 zero_map v
theorem vtF_none {v : Int} (h : cls v = none) : vtF cls ob v = none := by simp [vtF, h]
theorem vtF_some {v : Int} (h : cls v ≠ none) : vtF cls ob v = some (.map (some (ob v))) := by
  unfold vtF
  cases e : cls v with
  | none => exact absurd e h
  | some b => rfl

def tb25_1.T1 : Bool × List (List Nat × List Nat) := (true, [([], []), ([0], [0]), ([1], [1]), ([2], [2]), ([], []), ([3, 4], [3, 4]), ([5], [5]), ([], []), ([7], [7]), ([8], [8]), ([9], [9]), ([], []), ([10, 11], [10, 11]), ([12, 6], [12]), ([6, 13], [6, 13]), ([14], [14]), ([15, 13], [15]), ([16], [16]), ([17, 16], [16, 17]), ([18, 16], [16, 18]), ([19, 16], [16, 19]), ([16], [16]), ([20, 21, 16, 16], [16, 20, 21]), ([22, 16], [16, 22]), ([16, 23], [16, 23])])
def tb25_1.B1 : List Nat := [0, 1, 3, 7, 0, 31, 63, 0, 128, 384, 896, 0, 3968, 8191, 16383, 32767, 65535, 131071, 262143, 524287, 1048575, 131071, 4194303, 8388607, 16777215]
theorem tb25_1.tab1 : rtab .any (opsOf Try.f25 1) = tb25_1.T1 := by kernel_rfl
theorem tb25_1.bits1 : waitsOk tb25_1.T1.2 tb25_1.B1 = true := by kernel_rfl
theorem run_len_none (w : World) : (Builtin.len_ #[53] 3 #[.map none]).run Try.prog w = .ok (.int .i64 0) w := run_len_nilMap _ _ _ und_map
set_option maxHeartbeats 16000000 in
set_option maxRecDepth 100000 in
theorem dropv_no (h : CdS w gc ga go gi gp gm lk arcs ob ib cls row val tg pb cb) (v : Int) (hv : cls v = none) :
    Calls Try.prog 25 #[.pointer (some ⟨gc, 0, none⟩), .int .i64 v] w fun e w' => e = .returned (.bool false) ∧ Below w.heap.size w w' := by
  have hd := h.below (w' := w.drew) (Below.refl _ _).drew
  have q1 := h.m.hc.cell 1 rfl
  have q2 := h.m.hc.cell 2 rfl
  have q3 := h.m.hc.cell 3 rfl
  have l1 := lookV hd.m.ho v
  have l2 := lookV hd.m.hi v
  rw [vtF_none hv, Option.getD_none] at l1 l2
  have HC := Lib.hid (drop_no hd.p v hv)
  have hln := run_len_none
  have hw0 : wrap64 0 = 0 := by unfold wrap64; omega
  have hw1 : ¬ (0 : Int) < 0 := by decide
  clear h hv hd
  go_enter Try.func25, Try.ntmps25
  go_upto_region 1 with (fail)
  refine start_ (n := 25) (S := fun w' => w'.cell? ⟨gc, 1, none⟩ = some (.map (some go)) ∧ w'.cell? ⟨gc, 2, none⟩ = some (.map (some gi)) ∧ w'.cell? ⟨gc, 3, none⟩ = some (.pointer (some ⟨gp, 0, none⟩)) ∧ (Instr.lookup 54 (.map (some go)) (.int .i64 v) false).run Try.prog w' = .ok (.map none) w' ∧ (Instr.lookup 54 (.map (some gi)) (.int .i64 v) false).run Try.prog w' = .ok (.map none) w') (ds := [22]) (bA 25 0) (by kernel_rfl) rfl rfl ⟨q1, q2, q3, l1, l2⟩ (fun hHeld => ?_)
  refine with_tabW tb25_1.tab1 tb25_1.bits1 (fun HT_ HW_ => ?_)
  refine pure_ (i := 0) (N := some 5) (v := ?_) (a' := ?_) (bA 25 1) rfl rfl (any_of HT_.out (by kernel_rfl)) (fun _ _ _ h => h) (Or.inl ⟨by rfl, ?_⟩) ?_ ?_
  rotate_left; · intro w'; go_simp; with_reducible rfl
  rotate_left; · simp only [Act.put, pA, pB, pC, pD, pE]; rfl
  refine pure_ (i := 1) (N := some 6) (v := ?_) (a' := ?_) (bA 25 3) rfl rfl (any_of HT_.out (by kernel_rfl)) (fun _ _ _ h => h) (Or.inl ⟨by rfl, ?_⟩) ?_ ?_
  rotate_left; · intro w'; go_simp; with_reducible rfl
  rotate_left; · simp only [Act.put, pA, pB, pC, pD, pE]; rfl
  refine pure_ (i := 2) (N := some 7) (v := ?_) (a' := ?_) (bA 25 7) rfl rfl (any_of HT_.out (by kernel_rfl)) (fun _ _ _ h => h) (Or.inl ⟨by rfl, ?_⟩) ?_ ?_
  rotate_left; · intro w'; go_simp; with_reducible rfl
  rotate_left; · simp only [Act.put, pA, pB, pC, pD, pE]; rfl
  refine pure_ (i := 4) (N := some 9) (v := ?_) (a' := ?_) (bA 25 23) rfl rfl (any_of HT_.out (by kernel_rfl)) (fun _ _ _ h => h) (Or.inl ⟨by rfl, ?_⟩) ?_ ?_
  rotate_left; · intro w'; go_simp; with_reducible rfl
  rotate_left; · simp only [Act.put, pA, pB, pC, pD, pE]; rfl
  refine pure_ (i := 7) (N := some 12) (v := ?_) (a' := ?_) (bA 25 151) rfl rfl (any_of HT_.out (by kernel_rfl)) (fun _ _ _ h => h) (Or.inl ⟨by rfl, ?_⟩) ?_ ?_
  rotate_left; · intro w'; go_simp; with_reducible rfl
  rotate_left; · simp only [Act.put, pA, pB, pC, pD, pE]; rfl
  refine pure_ (i := 8) (N := some 13) (v := ?_) (a' := ?_) (bA 25 407) rfl rfl (any_of HT_.out (by kernel_rfl)) (fun _ _ _ h => h) (Or.inl ⟨by rfl, ?_⟩) ?_ ?_
  rotate_left; · intro w'; go_simp; with_reducible rfl
  rotate_left; · simp only [Act.put, pA, pB, pC, pD, pE]; rfl
  refine pure_ (i := 9) (N := some 14) (v := ?_) (a' := ?_) (bA 25 919) rfl rfl (any_of HT_.out (by kernel_rfl)) (fun _ _ _ h => h) (Or.inl ⟨by rfl, ?_⟩) ?_ ?_
  rotate_left; · intro w'; go_simp; with_reducible rfl
  rotate_left; · simp only [Act.put, pA, pB, pC, pD, pE]; rfl
  refine pure_ (i := 11) (N := some 16) (v := ?_) (a' := ?_) (bA 25 2967) rfl rfl (any_of HT_.out (by kernel_rfl)) (fun _ _ _ h => h) (Or.inl ⟨by rfl, ?_⟩) ?_ ?_
  rotate_left; · intro w'; go_simp; with_reducible rfl
  rotate_left; · simp only [Act.put, pA, pB, pC, pD, pE]; rfl
  refine take_ (i := 3) (N := some 8) (v := ?_) (a' := ?_) (bA 25 2975) rfl rfl (take_ofW HT_.out HW_.out (by kernel_rfl)) (fun _ _ _ h => h) (Or.inl ⟨by rfl, ?_⟩) hHeld ?_ ?_
  rotate_left
  · rintro w' ⟨s0, s1, s2, s3, s4⟩
    go_simp; with_reducible rfl
  rotate_left; · simp only [Act.put, pA, pB, pC, pD, pE]; rfl
  refine take_ (i := 5) (N := some 10) (v := ?_) (a' := ?_) (bA 25 3007) rfl rfl (take_ofW HT_.out HW_.out (by kernel_rfl)) (fun _ _ _ h => h) (Or.inl ⟨by rfl, ?_⟩) hHeld ?_ ?_
  rotate_left
  · rintro w' ⟨s0, s1, s2, s3, s4⟩
    go_simp; with_reducible rfl
  rotate_left; · simp only [Act.put, pA, pB, pC, pD, pE]; rfl
  refine pure_ (i := 6) (N := some 11) (v := ?_) (a' := ?_) (bA 25 3071) rfl rfl (any_of HT_.out (by kernel_rfl)) (fun _ _ _ h => h) (Or.inl ⟨by rfl, ?_⟩) ?_ ?_
  rotate_left; · intro w'; go_simp; with_reducible rfl
  rotate_left; · simp only [Act.put, pA, pB, pC, pD, pE]; rfl
  refine take_ (i := 10) (N := some 15) (v := ?_) (a' := ?_) (bA 25 4095) rfl rfl (take_ofW HT_.out HW_.out (by kernel_rfl)) (fun _ _ _ h => h) (Or.inl ⟨by rfl, ?_⟩) hHeld ?_ ?_
  rotate_left
  · rintro w' ⟨s0, s1, s2, s3, s4⟩
    go_simp; with_reducible rfl
  rotate_left; · simp only [Act.put, pA, pB, pC, pD, pE]; rfl
  refine take_ (i := 12) (N := some 17) (v := ?_) (a' := ?_) (bA 25 8191) rfl rfl (take_ofW HT_.out HW_.out (by kernel_rfl)) (fun _ _ _ h => h) (Or.inl ⟨by rfl, ?_⟩) hHeld ?_ ?_
  rotate_left
  · rintro w' ⟨s0, s1, s2, s3, s4⟩
    go_simp; with_reducible rfl
  rotate_left; · simp only [Act.put, pA, pB, pC, pD, pE]; rfl
  refine pure_ (i := 13) (N := some 18) (v := ?_) (a' := ?_) (bA 25 16383) rfl rfl (any_of HT_.out (by kernel_rfl)) (fun _ _ _ h => h) (Or.inl ⟨by rfl, ?_⟩) ?_ ?_
  rotate_left; · intro w'; go_simp; with_reducible rfl
  rotate_left; · simp only [Act.put, pA, pB, pC, pD, pE]; rfl
  refine pure_ (i := 14) (N := some 19) (v := ?_) (a' := ?_) (bA 25 32767) rfl rfl (any_of HT_.out (by kernel_rfl)) (fun _ _ _ h => h) (Or.inl ⟨by rfl, ?_⟩) ?_ ?_
  rotate_left; · intro w'; go_simp; with_reducible rfl
  rotate_left; · simp only [Act.put, pA, pB, pC, pD, pE]; rfl
  refine pure_ (i := 15) (N := some 20) (v := ?_) (a' := ?_) (bA 25 65535) rfl rfl (any_of HT_.out (by kernel_rfl)) (fun _ _ _ h => h) (Or.inl ⟨by rfl, ?_⟩) ?_ ?_
  rotate_left; · intro w'; go_simp; with_reducible rfl
  rotate_left; · simp only [Act.put, pA, pB, pC, pD, pE]; rfl
  refine pure_ (i := 16) (N := some 21) (v := ?_) (a' := ?_) (bA 25 131071) rfl rfl (any_of HT_.out (by kernel_rfl)) (fun _ _ _ h => h) (Or.inl ⟨by rfl, ?_⟩) ?_ ?_
  rotate_left; · intro w'; go_simp; with_reducible rfl
  rotate_left; · simp only [Act.put, pA, pB, pC, pD, pE]; rfl
  refine pure_ (i := 17) (N := some 22) (v := ?_) (a' := ?_) (bA 25 262143) rfl rfl (any_of HT_.out (by kernel_rfl)) (fun _ _ _ h => h) (Or.inl ⟨by rfl, ?_⟩) ?_ ?_
  rotate_left; · intro w'; go_simp; with_reducible rfl
  rotate_left; · simp only [Act.put, pA, pB, pC, pD, pE]; rfl
  refine pure_ (i := 18) (N := some 23) (v := ?_) (a' := ?_) (bA 25 524287) rfl rfl (any_of HT_.out (by kernel_rfl)) (fun _ _ _ h => h) (Or.inl ⟨by rfl, ?_⟩) ?_ ?_
  rotate_left; · intro w'; go_simp; with_reducible rfl
  rotate_left; · simp only [Act.put, pA, pB, pC, pD, pE]; rfl
  refine pure_ (i := 19) (N := some 24) (v := ?_) (a' := ?_) (bA 25 1048575) rfl rfl (any_of HT_.out (by kernel_rfl)) (fun _ _ _ h => h) (Or.inl ⟨by rfl, ?_⟩) ?_ ?_
  rotate_left; · intro w'; go_simp; with_reducible rfl
  rotate_left; · simp only [Act.put, pA, pB, pC, pD, pE]; rfl
  refine pure_ (i := 21) (N := some 26) (v := ?_) (a' := ?_) (bA 25 3145727) rfl rfl (any_of HT_.out (by kernel_rfl)) (fun _ _ _ h => h) (Or.inl ⟨by rfl, ?_⟩) ?_ ?_
  rotate_left; · intro w'; go_simp; with_reducible rfl
  rotate_left; · simp only [Act.put, pA, pB, pC, pD, pE]; rfl
  refine take_ (i := 20) (N := some 25) (v := ?_) (a' := ?_) (bA 25 4194303) rfl rfl (take_ofW HT_.out HW_.out (by kernel_rfl)) (fun _ _ _ h => h) (Or.inl ⟨by rfl, ?_⟩) hHeld ?_ ?_
  rotate_left
  · rintro w' ⟨s0, s1, s2, s3, s4⟩
    go_simp; with_reducible rfl
  rotate_left; · simp only [Act.put, pA, pB, pC, pD, pE]; rfl
  refine last_ (i := 22) (N := some 27) (bA 25 8388607) rfl rfl (one_of HT_.out (by kernel_rfl)) (by decide) (fun K hK => ?_)
  refine goes_ Try.func51 (by kernel_rfl) rfl #[.pointer (some ⟨gp, 0, none⟩), .int .i64 v] (by rfl) rfl rfl (by simp only [List.map_toArray, List.map_cons, List.map_nil]; rfl) ?_
  with_reducible refine (HC.out).mono ?_
  rintro e w1 ⟨rfl, hb1⟩
  refine ⟨_, rfl, ?_⟩
  refine hK.out _ _ ?_; clear hK K
  refine norm_ (a' := ?_) ?_ ?_
  rotate_left
  · show Act.put _ (some 27) _ = _
    simp only [Act.put, pA, pB, pC, pD, pE]; rfl
  refine pure_ (i := 23) (N := some 28) (v := ?_) (a' := ?_) (bA 25 16777215) rfl rfl (any_of HT_.out (by kernel_rfl)) (fun _ _ _ h => h) (Or.inl ⟨by rfl, ?_⟩) ?_ ?_
  rotate_left; · intro w'; go_simp; with_reducible rfl
  rotate_left; · simp only [Act.put, pA, pB, pC, pD, pE]; rfl
  refine pure_ (i := 24) (N := some 29) (v := ?_) (a' := ?_) (bA 25 33554431) rfl rfl (any_of HT_.out (by kernel_rfl)) (fun _ _ _ h => h) (Or.inl ⟨by rfl, ?_⟩) ?_ ?_
  rotate_left; · intro w'; go_simp; with_reducible rfl
  rotate_left; · simp only [Act.put, pA, pB, pC, pD, pE]; rfl
  refine done_ (done_of HT_.out (by kernel_rfl)) ?_
  clear hHeld HT_ HW_
  go_wp2
  go_ret
  exact ⟨rfl, (Below.refl _ _).drew.trans hb1⟩
set_option maxHeartbeats 16000000 in
set_option maxRecDepth 100000 in
theorem dropv_has (h : CdS w gc ga go gi gp gm lk arcs ob ib cls row val tg pb cb) (v : Int) (hv : cls v ≠ none) (ha : ∃ e p, arcs e = some p ∧ (p.1 = v ∨ p.2 = v)) :
    Calls Try.prog 25 #[.pointer (some ⟨gc, 0, none⟩), .int .i64 v] w fun e w' => e = .returned (.bool false) ∧ w' = w.drew := by
  have hd := h.below (w' := w.drew) (Below.refl _ _).drew
  have q1 := h.m.hc.cell 1 rfl
  have q2 := h.m.hc.cell 2 rfl
  have q3 := h.m.hc.cell 3 rfl
  have l1 := lookV hd.m.ho v
  have l2 := lookV hd.m.hi v
  rw [vtF_some hv, Option.getD_some] at l1 l2
  obtain ⟨K, hK, hKa⟩ := h.fin
  obtain ⟨m1, n1, hm1, hz1⟩ := MQ.len (hd.m.oo v hv) (K := K) fun k hk => hKa k fun e => hk (by unfold ouF; rw [e]; rfl)
  obtain ⟨m2, n2, hm2, hz2⟩ := MQ.len (hd.m.ii v hv) (K := K) fun k hk => hKa k fun e => hk (by unfold inF; rw [e]; rfl)
  have hpos : 0 < m1 + m2 := by
    obtain ⟨e, p, h1, h2 | h2⟩ := ha
    · rcases Nat.eq_zero_or_pos m1 with h0 | h0
      · have := hz1.1 h0 e
        have h3 := ouF_iff.2 ⟨p.2, show arcs e = some (v, p.2) by rw [h1, ← h2], rfl⟩
        rw [this] at h3
        cases h3
      · omega
    · rcases Nat.eq_zero_or_pos m2 with h0 | h0
      · have := hz2.1 h0 e
        have h3 := inF_iff.2 ⟨p.1, show arcs e = some (p.1, v) by rw [h1, ← h2], rfl⟩
        rw [this] at h3
        cases h3
      · omega
  obtain ⟨bo, hbo⟩ : ∃ bo, ob v = bo := ⟨_, rfl⟩
  obtain ⟨bi, hbi⟩ : ∃ bi, ib v = bi := ⟨_, rfl⟩
  rw [hbo] at l1 n1
  rw [hbi] at l2 n2
  have k1 : ((m1 : Int) + (m2 : Int)) ≤ 2000 := by omega
  have k2 : decide (0 < (m1 : Int) + (m2 : Int)) = true := decide_eq_true (by omega)
  obtain ⟨x1, hx1⟩ : ∃ x : Int, (m1 : Int) = x := ⟨_, rfl⟩
  obtain ⟨x2, hx2⟩ : ∃ x : Int, (m2 : Int) = x := ⟨_, rfl⟩
  rw [hx1] at n1 k1 k2
  rw [hx2] at n2 k1 k2
  have p1 : 0 ≤ x1 := by omega
  have p2 : 0 ≤ x2 := by omega
  have hadd : wrap64 (x1 + x2) = x1 + x2 := by unfold wrap64; omega
  have k3 : 0 < x1 + x2 := of_decide_eq_true k2
  clear h hv ha hd hK hKa hm1 hm2 hz1 hz2 hpos hbo hbi hx1 hx2
  go_enter Try.func25, Try.ntmps25
  go_upto_region 1 with (fail)
  refine start_ (n := 25) (S := fun w' => w'.cell? ⟨gc, 1, none⟩ = some (.map (some go)) ∧ w'.cell? ⟨gc, 2, none⟩ = some (.map (some gi)) ∧ w'.cell? ⟨gc, 3, none⟩ = some (.pointer (some ⟨gp, 0, none⟩)) ∧ (Instr.lookup 54 (.map (some go)) (.int .i64 v) false).run Try.prog w' = .ok (.map (some bo)) w' ∧ (Instr.lookup 54 (.map (some gi)) (.int .i64 v) false).run Try.prog w' = .ok (.map (some bi)) w' ∧ (Builtin.len_ #[53] 3 #[.map (some bo)]).run Try.prog w' = .ok (.int .i64 x1) w' ∧ (Builtin.len_ #[53] 3 #[.map (some bi)]).run Try.prog w' = .ok (.int .i64 x2) w') (ds := []) (bA 25 0) (by kernel_rfl) rfl rfl ⟨q1, q2, q3, l1, l2, n1, n2⟩ (fun hHeld => ?_)
  refine with_tabW tb25_1.tab1 tb25_1.bits1 (fun HT_ HW_ => ?_)
  refine pure_ (i := 0) (N := some 5) (v := ?_) (a' := ?_) (bA 25 1) rfl rfl (any_of HT_.out (by kernel_rfl)) (fun _ _ _ h => h) (Or.inl ⟨by rfl, ?_⟩) ?_ ?_
  rotate_left; · intro w'; go_simp; with_reducible rfl
  rotate_left; · simp only [Act.put, pA, pB, pC, pD, pE]; rfl
  refine pure_ (i := 1) (N := some 6) (v := ?_) (a' := ?_) (bA 25 3) rfl rfl (any_of HT_.out (by kernel_rfl)) (fun _ _ _ h => h) (Or.inl ⟨by rfl, ?_⟩) ?_ ?_
  rotate_left; · intro w'; go_simp; with_reducible rfl
  rotate_left; · simp only [Act.put, pA, pB, pC, pD, pE]; rfl
  refine pure_ (i := 2) (N := some 7) (v := ?_) (a' := ?_) (bA 25 7) rfl rfl (any_of HT_.out (by kernel_rfl)) (fun _ _ _ h => h) (Or.inl ⟨by rfl, ?_⟩) ?_ ?_
  rotate_left; · intro w'; go_simp; with_reducible rfl
  rotate_left; · simp only [Act.put, pA, pB, pC, pD, pE]; rfl
  refine pure_ (i := 4) (N := some 9) (v := ?_) (a' := ?_) (bA 25 23) rfl rfl (any_of HT_.out (by kernel_rfl)) (fun _ _ _ h => h) (Or.inl ⟨by rfl, ?_⟩) ?_ ?_
  rotate_left; · intro w'; go_simp; with_reducible rfl
  rotate_left; · simp only [Act.put, pA, pB, pC, pD, pE]; rfl
  refine pure_ (i := 7) (N := some 12) (v := ?_) (a' := ?_) (bA 25 151) rfl rfl (any_of HT_.out (by kernel_rfl)) (fun _ _ _ h => h) (Or.inl ⟨by rfl, ?_⟩) ?_ ?_
  rotate_left; · intro w'; go_simp; with_reducible rfl
  rotate_left; · simp only [Act.put, pA, pB, pC, pD, pE]; rfl
  refine pure_ (i := 8) (N := some 13) (v := ?_) (a' := ?_) (bA 25 407) rfl rfl (any_of HT_.out (by kernel_rfl)) (fun _ _ _ h => h) (Or.inl ⟨by rfl, ?_⟩) ?_ ?_
  rotate_left; · intro w'; go_simp; with_reducible rfl
  rotate_left; · simp only [Act.put, pA, pB, pC, pD, pE]; rfl
  refine pure_ (i := 9) (N := some 14) (v := ?_) (a' := ?_) (bA 25 919) rfl rfl (any_of HT_.out (by kernel_rfl)) (fun _ _ _ h => h) (Or.inl ⟨by rfl, ?_⟩) ?_ ?_
  rotate_left; · intro w'; go_simp; with_reducible rfl
  rotate_left; · simp only [Act.put, pA, pB, pC, pD, pE]; rfl
  refine pure_ (i := 11) (N := some 16) (v := ?_) (a' := ?_) (bA 25 2967) rfl rfl (any_of HT_.out (by kernel_rfl)) (fun _ _ _ h => h) (Or.inl ⟨by rfl, ?_⟩) ?_ ?_
  rotate_left; · intro w'; go_simp; with_reducible rfl
  rotate_left; · simp only [Act.put, pA, pB, pC, pD, pE]; rfl
  refine take_ (i := 3) (N := some 8) (v := ?_) (a' := ?_) (bA 25 2975) rfl rfl (take_ofW HT_.out HW_.out (by kernel_rfl)) (fun _ _ _ h => h) (Or.inl ⟨by rfl, ?_⟩) hHeld ?_ ?_
  rotate_left
  · rintro w' ⟨s0, s1, s2, s3, s4, s5, s6⟩
    go_simp; with_reducible rfl
  rotate_left; · simp only [Act.put, pA, pB, pC, pD, pE]; rfl
  refine take_ (i := 5) (N := some 10) (v := ?_) (a' := ?_) (bA 25 3007) rfl rfl (take_ofW HT_.out HW_.out (by kernel_rfl)) (fun _ _ _ h => h) (Or.inl ⟨by rfl, ?_⟩) hHeld ?_ ?_
  rotate_left
  · rintro w' ⟨s0, s1, s2, s3, s4, s5, s6⟩
    go_simp; with_reducible rfl
  rotate_left; · simp only [Act.put, pA, pB, pC, pD, pE]; rfl
  refine take_ (i := 6) (N := some 11) (v := ?_) (a' := ?_) (bA 25 3071) rfl rfl (take_ofW HT_.out HW_.out (by kernel_rfl)) (fun _ _ _ h => h) (Or.inl ⟨by rfl, ?_⟩) hHeld ?_ ?_
  rotate_left
  · rintro w' ⟨s0, s1, s2, s3, s4, s5, s6⟩
    go_simp; with_reducible rfl
  rotate_left; · simp only [Act.put, pA, pB, pC, pD, pE]; rfl
  refine take_ (i := 10) (N := some 15) (v := ?_) (a' := ?_) (bA 25 4095) rfl rfl (take_ofW HT_.out HW_.out (by kernel_rfl)) (fun _ _ _ h => h) (Or.inl ⟨by rfl, ?_⟩) hHeld ?_ ?_
  rotate_left
  · rintro w' ⟨s0, s1, s2, s3, s4, s5, s6⟩
    go_simp; with_reducible rfl
  rotate_left; · simp only [Act.put, pA, pB, pC, pD, pE]; rfl
  refine take_ (i := 12) (N := some 17) (v := ?_) (a' := ?_) (bA 25 8191) rfl rfl (take_ofW HT_.out HW_.out (by kernel_rfl)) (fun _ _ _ h => h) (Or.inl ⟨by rfl, ?_⟩) hHeld ?_ ?_
  rotate_left
  · rintro w' ⟨s0, s1, s2, s3, s4, s5, s6⟩
    go_simp; with_reducible rfl
  rotate_left; · simp only [Act.put, pA, pB, pC, pD, pE]; rfl
  refine take_ (i := 13) (N := some 18) (v := ?_) (a' := ?_) (bA 25 16383) rfl rfl (take_ofW HT_.out HW_.out (by kernel_rfl)) (fun _ _ _ h => h) (Or.inl ⟨by rfl, ?_⟩) hHeld ?_ ?_
  rotate_left
  · rintro w' ⟨s0, s1, s2, s3, s4, s5, s6⟩
    go_simp; with_reducible rfl
  rotate_left; · simp only [Act.put, pA, pB, pC, pD, pE]; rfl
  refine pure_ (i := 14) (N := some 19) (v := ?_) (a' := ?_) (bA 25 32767) rfl rfl (any_of HT_.out (by kernel_rfl)) (fun _ _ _ h => h) (Or.inl ⟨by rfl, ?_⟩) ?_ ?_
  rotate_left; · intro w'; go_simp; with_reducible rfl
  rotate_left; · simp only [Act.put, pA, pB, pC, pD, pE]; rfl
  refine pure_ (i := 15) (N := some 20) (v := ?_) (a' := ?_) (bA 25 65535) rfl rfl (any_of HT_.out (by kernel_rfl)) (fun _ _ _ h => h) (Or.inl ⟨by rfl, ?_⟩) ?_ ?_
  rotate_left; · intro w'; go_simp; with_reducible rfl
  rotate_left; · simp only [Act.put, pA, pB, pC, pD, pE]; rfl
  refine pure_ (i := 16) (N := some 21) (v := ?_) (a' := ?_) (bA 25 131071) rfl rfl (any_of HT_.out (by kernel_rfl)) (fun _ _ _ h => h) (Or.inl ⟨by rfl, ?_⟩) ?_ ?_
  rotate_left; · intro w'; go_simp; with_reducible rfl
  rotate_left; · simp only [Act.put, pA, pB, pC, pD, pE]; rfl
  refine pure_ (i := 17) (N := some 22) (v := undef) (a' := ?_) (bA 25 262143) rfl rfl (any_of HT_.out (by kernel_rfl)) (fun _ _ _ h => h) (Or.inr ⟨by rfl, rfl⟩) ?_ ?_
  rotate_left; · simp only [Act.put, pA, pB, pC, pD, pE]; rfl
  refine pure_ (i := 18) (N := some 23) (v := undef) (a' := ?_) (bA 25 524287) rfl rfl (any_of HT_.out (by kernel_rfl)) (fun _ _ _ h => h) (Or.inr ⟨by rfl, rfl⟩) ?_ ?_
  rotate_left; · simp only [Act.put, pA, pB, pC, pD, pE]; rfl
  refine pure_ (i := 19) (N := some 24) (v := undef) (a' := ?_) (bA 25 1048575) rfl rfl (any_of HT_.out (by kernel_rfl)) (fun _ _ _ h => h) (Or.inr ⟨by rfl, rfl⟩) ?_ ?_
  rotate_left; · simp only [Act.put, pA, pB, pC, pD, pE]; rfl
  refine pure_ (i := 20) (N := some 25) (v := undef) (a' := ?_) (bA 25 2097151) rfl rfl (any_of HT_.out (by kernel_rfl)) (fun _ _ _ h => h) (Or.inr ⟨by rfl, rfl⟩) ?_ ?_
  rotate_left; · simp only [Act.put, pA, pB, pC, pD, pE]; rfl
  refine pure_ (i := 21) (N := some 26) (v := undef) (a' := ?_) (bA 25 4194303) rfl rfl (any_of HT_.out (by kernel_rfl)) (fun _ _ _ h => h) (Or.inr ⟨by rfl, rfl⟩) ?_ ?_
  rotate_left; · simp only [Act.put, pA, pB, pC, pD, pE]; rfl
  refine pure_ (i := 22) (N := some 27) (v := undef) (a' := ?_) (bA 25 8388607) rfl rfl (any_of HT_.out (by kernel_rfl)) (fun _ _ _ h => h) (Or.inr ⟨by rfl, rfl⟩) ?_ ?_
  rotate_left; · simp only [Act.put, pA, pB, pC, pD, pE]; rfl
  refine pure_ (i := 23) (N := some 28) (v := undef) (a' := ?_) (bA 25 16777215) rfl rfl (any_of HT_.out (by kernel_rfl)) (fun _ _ _ h => h) (Or.inr ⟨by rfl, rfl⟩) ?_ ?_
  rotate_left; · simp only [Act.put, pA, pB, pC, pD, pE]; rfl
  refine pure_ (i := 24) (N := some 29) (v := ?_) (a' := ?_) (bA 25 33554431) rfl rfl (any_of HT_.out (by kernel_rfl)) (fun _ _ _ h => h) (Or.inl ⟨by rfl, ?_⟩) ?_ ?_
  rotate_left; · intro w'; go_simp; with_reducible rfl
  rotate_left; · simp only [Act.put, pA, pB, pC, pD, pE]; rfl
  refine done_ (done_of HT_.out (by kernel_rfl)) ?_
  clear hHeld HT_ HW_
  go_wp2
  go_ret
  exact ⟨rfl, rfl⟩
theorem vtF_del {v : Int} : updV (vtF cls ob) v none = vtF (fun x => if x = v then none else cls x) ob := by
  funext x
  unfold vtF updV
  by_cases e : x = v <;> simp [e]
theorem dropv_end {v : Int} (h : CdS w gc ga go gi gp gm lk arcs ob ib cls row val tg pb cb) (ha : ∀ e p, arcs e = some p → p.1 ≠ v ∧ p.2 ≠ v)
    (hm1 : CdM w1 gc ga go gi gp gm lk (arF arcs) (vtF cls ob) (vtF cls ib) ob ib (ouF arcs) (inF arcs) (fun v => cls v ≠ none) tg (ext pb w w1) (ext cb w w1))
    (hP1 : PtS w1 gp gm (fun x => if x = v then none else cls x) row val (ext pb w w1)) (hk1 : Kpt pb w w1)
    (hA : AVs w1 go gi (vtF (fun x => if x = v then none else cls x) ob) (vtF (fun x => if x = v then none else cls x) ib) W)
    (hat : At W gc [.map (some ga), .map (some go), .map (some gi), .pointer (some ⟨gp, 0, none⟩), .int .i64 lk] 58) :
    Kpt cb w W ∧ ∃ pb', CdS W gc ga go gi gp gm lk arcs ob ib (fun x => if x = v then none else cls x) row val tg pb' (ext cb w W) := by
  have hsz := hk1.size
  have hsz2 := hA.k.size
  have hD : ∀ x, (if x = v then none else cls x) ≠ none → x ≠ v ∧ cls x ≠ none := fun x hx => by
    by_cases e : x = v
    · rw [if_pos e] at hx
      exact absurd rfl hx
    · rw [if_neg e] at hx
      exact ⟨e, hx⟩
  have hout : ∀ k, k < w1.heap.size → k ≠ go → k ≠ gi → W.heap[k]? = w1.heap[k]? := fun k hk h1 h2 => hA.k.block k hk (fun e => e.elim h1 h2)
  have hoT : ∀ x, cls x ≠ none → ob x ≠ go ∧ ob x ≠ gi ∧ ib x ≠ go ∧ ib x ≠ gi := fun x hx =>
    ⟨tgne (h.m.t.ob x hx) h.m.t.o (by simp), tgne (h.m.t.ob x hx) h.m.t.i (by simp), tgne (h.m.t.ib x hx) h.m.t.o (by simp), tgne (h.m.t.ib x hx) h.m.t.i (by simp)⟩
  have haT : ga ≠ go ∧ ga ≠ gi := ⟨tgne h.m.t.a h.m.t.o (by simp), tgne h.m.t.a h.m.t.i (by simp)⟩
  have hkW : Kpt cb w W := (hk1.mono fun k _ => h.m.cp k).trans' hA.k fun k _ e => e.elim (fun e => e ▸ h.m.co) (fun e => e ▸ h.m.ci)
  refine ⟨hkW, ext pb w w1, ⟨⟨hat, hm1.ha.move (hout _ hm1.ha.lt haT.1 haT.2), hA.o, hA.i, fun x hx => ?_, fun x hx => ?_, ⟨h.m.t.a, h.m.t.o, h.m.t.i, h.m.t.m, fun x hx => h.m.t.ob x (hD x hx).2, fun x hx => h.m.t.ib x (hD x hx).2⟩, hm1.nc, hm1.na, hm1.no, hm1.ni, fun x hx => hm1.nob x (hD x hx).2, fun x hx => hm1.nib x (hD x hx).2, .inl h.m.cc, .inl h.m.ca, .inl h.m.co, .inl h.m.ci, fun x hx => .inl (h.m.cob x (hD x hx).2), fun x hx => .inl (h.m.cib x (hD x hx).2), fun k hk => ?_, .inl h.m.cgp, fun k hk => ?_⟩,
    PtS.keep hP1 hA.k (fun e => e.elim (fun e => ?_) (fun e => ?_)) (fun k hk e => e.elim (fun e => ?_) (fun e => ?_)), fun e p hp => ?_, h.fin⟩⟩
  · have hx := (hD x hx).2
    exact (hm1.oo x hx).move (hout _ (hm1.oo x hx).lt (hoT x hx).1 (hoT x hx).2.1)
  · have hx := (hD x hx).2
    exact (hm1.ii x hx).move (hout _ (hm1.ii x hx).lt (hoT x hx).2.2.1 (hoT x hx).2.2.2)
  · exact (hm1.cp k hk).imp id fun ⟨a, b⟩ => ⟨a, by omega⟩
  · rcases hk with e | ⟨_, e⟩
    · have := h.m.lt k e
      omega
    · exact e
  · exact h.m.ho.ne h.p.hp e
  · exact h.m.hi.ne h.p.hp e
  · exact hm1.no (e ▸ hk)
  · exact hm1.ni (e ▸ hk)
  · have hx := h.en e p hp
    rw [if_neg (ha e p hp).1, if_neg (ha e p hp).2]
    exact hx
set_option maxHeartbeats 16000000 in
set_option maxRecDepth 100000 in
theorem dropv_calls (h : CdS w gc ga go gi gp gm lk arcs ob ib cls row val tg pb cb) (v : Int) {b0 : Nat} (hv : cls v = some b0) (hr : row b0 = [v]) (ha : ∀ e p, arcs e = some p → p.1 ≠ v ∧ p.2 ≠ v) :
    Calls Try.prog 25 #[.pointer (some ⟨gc, 0, none⟩), .int .i64 v] w fun e w' => e = .returned (.bool true) ∧ Kpt cb w w' ∧ ∃ pb', CdS w' gc ga go gi gp gm lk arcs ob ib (fun x => if x = v then none else cls x) row val tg pb' (ext cb w w') := by
  have hd := h.below (w' := w.drew) (Below.refl _ _).drew
  have q1 := h.m.hc.cell 1 rfl
  have q2 := h.m.hc.cell 2 rfl
  have q3 := h.m.hc.cell 3 rfl
  have l1 := lookV hd.m.ho v
  have l2 := lookV hd.m.hi v
  have hvn : cls v ≠ none := fun e => by rw [hv] at e; cases e
  rw [vtF_some hvn, Option.getD_some] at l1 l2
  obtain ⟨K, hK, hKa⟩ := h.fin
  obtain ⟨m1, n1, hm1, hz1⟩ := MQ.len (hd.m.oo v hvn) (K := K) fun k hk => hKa k fun e => hk (by unfold ouF; rw [e]; rfl)
  obtain ⟨m2, n2, hm2, hz2⟩ := MQ.len (hd.m.ii v hvn) (K := K) fun k hk => hKa k fun e => hk (by unfold inF; rw [e]; rfl)
  obtain rfl := hz1.2 fun k => congrFun (ouF_nil fun e p hp => (ha e p hp).1) k
  obtain rfl := hz2.2 fun k => congrFun (inF_nil fun e p hp => (ha e p hp).2) k
  obtain ⟨bo, hbo⟩ : ∃ bo, ob v = bo := ⟨_, rfl⟩
  obtain ⟨bi, hbi⟩ : ∃ bi, ib v = bi := ⟨_, rfl⟩
  rw [hbo] at l1 n1
  rw [hbi] at l2 n2
  have hw0 : wrap64 0 = 0 := by unfold wrap64; omega
  have hw1 : ¬ (0 : Int) < 0 := by decide
  have n1 : (Builtin.len_ #[53] 3 #[.map (some bo)]).run Try.prog w.drew = .ok (.int .i64 0) w.drew := n1
  have n2 : (Builtin.len_ #[53] 3 #[.map (some bi)]).run Try.prog w.drew = .ok (.int .i64 0) w.drew := n2
  have HC := Lib.hid (drop_calls hd.p v hv hr)
  have HH := Lib.hid (And.intro h ha)
  clear h hv hvn hr ha hd hK hKa hm1 hm2 hz1 hz2 hbo hbi
  go_enter Try.func25, Try.ntmps25
  go_upto_region 1 with (fail)
  refine start_ (n := 25) (S := fun w' => w'.cell? ⟨gc, 1, none⟩ = some (.map (some go)) ∧ w'.cell? ⟨gc, 2, none⟩ = some (.map (some gi)) ∧ w'.cell? ⟨gc, 3, none⟩ = some (.pointer (some ⟨gp, 0, none⟩)) ∧ (Instr.lookup 54 (.map (some go)) (.int .i64 v) false).run Try.prog w' = .ok (.map (some bo)) w' ∧ (Instr.lookup 54 (.map (some gi)) (.int .i64 v) false).run Try.prog w' = .ok (.map (some bi)) w' ∧ (Builtin.len_ #[53] 3 #[.map (some bo)]).run Try.prog w' = .ok (.int .i64 0) w' ∧ (Builtin.len_ #[53] 3 #[.map (some bi)]).run Try.prog w' = .ok (.int .i64 0) w') (ds := [22]) (bA 25 0) (by kernel_rfl) rfl rfl ⟨q1, q2, q3, l1, l2, n1, n2⟩ (fun hHeld => ?_)
  refine with_tabW tb25_1.tab1 tb25_1.bits1 (fun HT_ HW_ => ?_)
  refine pure_ (i := 0) (N := some 5) (v := ?_) (a' := ?_) (bA 25 1) rfl rfl (any_of HT_.out (by kernel_rfl)) (fun _ _ _ h => h) (Or.inl ⟨by rfl, ?_⟩) ?_ ?_
  rotate_left; · intro w'; go_simp; with_reducible rfl
  rotate_left; · simp only [Act.put, pA, pB, pC, pD, pE]; rfl
  refine pure_ (i := 1) (N := some 6) (v := ?_) (a' := ?_) (bA 25 3) rfl rfl (any_of HT_.out (by kernel_rfl)) (fun _ _ _ h => h) (Or.inl ⟨by rfl, ?_⟩) ?_ ?_
  rotate_left; · intro w'; go_simp; with_reducible rfl
  rotate_left; · simp only [Act.put, pA, pB, pC, pD, pE]; rfl
  refine pure_ (i := 2) (N := some 7) (v := ?_) (a' := ?_) (bA 25 7) rfl rfl (any_of HT_.out (by kernel_rfl)) (fun _ _ _ h => h) (Or.inl ⟨by rfl, ?_⟩) ?_ ?_
  rotate_left; · intro w'; go_simp; with_reducible rfl
  rotate_left; · simp only [Act.put, pA, pB, pC, pD, pE]; rfl
  refine pure_ (i := 4) (N := some 9) (v := ?_) (a' := ?_) (bA 25 23) rfl rfl (any_of HT_.out (by kernel_rfl)) (fun _ _ _ h => h) (Or.inl ⟨by rfl, ?_⟩) ?_ ?_
  rotate_left; · intro w'; go_simp; with_reducible rfl
  rotate_left; · simp only [Act.put, pA, pB, pC, pD, pE]; rfl
  refine pure_ (i := 7) (N := some 12) (v := ?_) (a' := ?_) (bA 25 151) rfl rfl (any_of HT_.out (by kernel_rfl)) (fun _ _ _ h => h) (Or.inl ⟨by rfl, ?_⟩) ?_ ?_
  rotate_left; · intro w'; go_simp; with_reducible rfl
  rotate_left; · simp only [Act.put, pA, pB, pC, pD, pE]; rfl
  refine pure_ (i := 8) (N := some 13) (v := ?_) (a' := ?_) (bA 25 407) rfl rfl (any_of HT_.out (by kernel_rfl)) (fun _ _ _ h => h) (Or.inl ⟨by rfl, ?_⟩) ?_ ?_
  rotate_left; · intro w'; go_simp; with_reducible rfl
  rotate_left; · simp only [Act.put, pA, pB, pC, pD, pE]; rfl
  refine pure_ (i := 9) (N := some 14) (v := ?_) (a' := ?_) (bA 25 919) rfl rfl (any_of HT_.out (by kernel_rfl)) (fun _ _ _ h => h) (Or.inl ⟨by rfl, ?_⟩) ?_ ?_
  rotate_left; · intro w'; go_simp; with_reducible rfl
  rotate_left; · simp only [Act.put, pA, pB, pC, pD, pE]; rfl
  refine pure_ (i := 11) (N := some 16) (v := ?_) (a' := ?_) (bA 25 2967) rfl rfl (any_of HT_.out (by kernel_rfl)) (fun _ _ _ h => h) (Or.inl ⟨by rfl, ?_⟩) ?_ ?_
  rotate_left; · intro w'; go_simp; with_reducible rfl
  rotate_left; · simp only [Act.put, pA, pB, pC, pD, pE]; rfl
  refine take_ (i := 3) (N := some 8) (v := ?_) (a' := ?_) (bA 25 2975) rfl rfl (take_ofW HT_.out HW_.out (by kernel_rfl)) (fun _ _ _ h => h) (Or.inl ⟨by rfl, ?_⟩) hHeld ?_ ?_
  rotate_left
  · rintro w' ⟨s0, s1, s2, s3, s4, s5, s6⟩
    go_simp; with_reducible rfl
  rotate_left; · simp only [Act.put, pA, pB, pC, pD, pE]; rfl
  refine take_ (i := 5) (N := some 10) (v := ?_) (a' := ?_) (bA 25 3007) rfl rfl (take_ofW HT_.out HW_.out (by kernel_rfl)) (fun _ _ _ h => h) (Or.inl ⟨by rfl, ?_⟩) hHeld ?_ ?_
  rotate_left
  · rintro w' ⟨s0, s1, s2, s3, s4, s5, s6⟩
    go_simp; with_reducible rfl
  rotate_left; · simp only [Act.put, pA, pB, pC, pD, pE]; rfl
  refine take_ (i := 6) (N := some 11) (v := ?_) (a' := ?_) (bA 25 3071) rfl rfl (take_ofW HT_.out HW_.out (by kernel_rfl)) (fun _ _ _ h => h) (Or.inl ⟨by rfl, ?_⟩) hHeld ?_ ?_
  rotate_left
  · rintro w' ⟨s0, s1, s2, s3, s4, s5, s6⟩
    go_simp; with_reducible rfl
  rotate_left; · simp only [Act.put, pA, pB, pC, pD, pE]; rfl
  refine take_ (i := 10) (N := some 15) (v := ?_) (a' := ?_) (bA 25 4095) rfl rfl (take_ofW HT_.out HW_.out (by kernel_rfl)) (fun _ _ _ h => h) (Or.inl ⟨by rfl, ?_⟩) hHeld ?_ ?_
  rotate_left
  · rintro w' ⟨s0, s1, s2, s3, s4, s5, s6⟩
    go_simp; with_reducible rfl
  rotate_left; · simp only [Act.put, pA, pB, pC, pD, pE]; rfl
  refine take_ (i := 12) (N := some 17) (v := ?_) (a' := ?_) (bA 25 8191) rfl rfl (take_ofW HT_.out HW_.out (by kernel_rfl)) (fun _ _ _ h => h) (Or.inl ⟨by rfl, ?_⟩) hHeld ?_ ?_
  rotate_left
  · rintro w' ⟨s0, s1, s2, s3, s4, s5, s6⟩
    go_simp; with_reducible rfl
  rotate_left; · simp only [Act.put, pA, pB, pC, pD, pE]; rfl
  refine take_ (i := 13) (N := some 18) (v := ?_) (a' := ?_) (bA 25 16383) rfl rfl (take_ofW HT_.out HW_.out (by kernel_rfl)) (fun _ _ _ h => h) (Or.inl ⟨by rfl, ?_⟩) hHeld ?_ ?_
  rotate_left
  · rintro w' ⟨s0, s1, s2, s3, s4, s5, s6⟩
    go_simp; with_reducible rfl
  rotate_left; · simp only [Act.put, pA, pB, pC, pD, pE]; rfl
  refine pure_ (i := 14) (N := some 19) (v := ?_) (a' := ?_) (bA 25 32767) rfl rfl (any_of HT_.out (by kernel_rfl)) (fun _ _ _ h => h) (Or.inl ⟨by rfl, ?_⟩) ?_ ?_
  rotate_left; · intro w'; go_simp; with_reducible rfl
  rotate_left; · simp only [Act.put, pA, pB, pC, pD, pE]; rfl
  refine pure_ (i := 15) (N := some 20) (v := ?_) (a' := ?_) (bA 25 65535) rfl rfl (any_of HT_.out (by kernel_rfl)) (fun _ _ _ h => h) (Or.inl ⟨by rfl, ?_⟩) ?_ ?_
  rotate_left; · intro w'; go_simp; with_reducible rfl
  rotate_left; · simp only [Act.put, pA, pB, pC, pD, pE]; rfl
  refine pure_ (i := 16) (N := some 21) (v := ?_) (a' := ?_) (bA 25 131071) rfl rfl (any_of HT_.out (by kernel_rfl)) (fun _ _ _ h => h) (Or.inl ⟨by rfl, ?_⟩) ?_ ?_
  rotate_left; · intro w'; go_simp; with_reducible rfl
  rotate_left; · simp only [Act.put, pA, pB, pC, pD, pE]; rfl
  refine pure_ (i := 17) (N := some 22) (v := ?_) (a' := ?_) (bA 25 262143) rfl rfl (any_of HT_.out (by kernel_rfl)) (fun _ _ _ h => h) (Or.inl ⟨by rfl, ?_⟩) ?_ ?_
  rotate_left; · intro w'; go_simp; with_reducible rfl
  rotate_left; · simp only [Act.put, pA, pB, pC, pD, pE]; rfl
  refine pure_ (i := 18) (N := some 23) (v := ?_) (a' := ?_) (bA 25 524287) rfl rfl (any_of HT_.out (by kernel_rfl)) (fun _ _ _ h => h) (Or.inl ⟨by rfl, ?_⟩) ?_ ?_
  rotate_left; · intro w'; go_simp; with_reducible rfl
  rotate_left; · simp only [Act.put, pA, pB, pC, pD, pE]; rfl
  refine pure_ (i := 19) (N := some 24) (v := ?_) (a' := ?_) (bA 25 1048575) rfl rfl (any_of HT_.out (by kernel_rfl)) (fun _ _ _ h => h) (Or.inl ⟨by rfl, ?_⟩) ?_ ?_
  rotate_left; · intro w'; go_simp; with_reducible rfl
  rotate_left; · simp only [Act.put, pA, pB, pC, pD, pE]; rfl
  refine pure_ (i := 21) (N := some 26) (v := ?_) (a' := ?_) (bA 25 3145727) rfl rfl (any_of HT_.out (by kernel_rfl)) (fun _ _ _ h => h) (Or.inl ⟨by rfl, ?_⟩) ?_ ?_
  rotate_left; · intro w'; go_simp; with_reducible rfl
  rotate_left; · simp only [Act.put, pA, pB, pC, pD, pE]; rfl
  refine take_ (i := 20) (N := some 25) (v := ?_) (a' := ?_) (bA 25 4194303) rfl rfl (take_ofW HT_.out HW_.out (by kernel_rfl)) (fun _ _ _ h => h) (Or.inl ⟨by rfl, ?_⟩) hHeld ?_ ?_
  rotate_left
  · rintro w' ⟨s0, s1, s2, s3, s4, s5, s6⟩
    go_simp; with_reducible rfl
  rotate_left; · simp only [Act.put, pA, pB, pC, pD, pE]; rfl
  refine last_ (i := 22) (N := some 27) (bA 25 8388607) rfl rfl (one_of HT_.out (by kernel_rfl)) (by decide) (fun K hK => ?_)
  refine goes_ Try.func51 (by kernel_rfl) rfl #[.pointer (some ⟨gp, 0, none⟩), .int .i64 v] (by rfl) rfl rfl (by simp only [List.map_toArray, List.map_cons, List.map_nil]; rfl) ?_
  with_reducible refine (HC.out).mono ?_
  rintro e w1 ⟨rfl, hk1, hP1⟩
  refine ⟨_, rfl, ?_⟩
  refine hK.out _ _ ?_; clear hK K
  refine norm_ (a' := ?_) ?_ ?_
  rotate_left
  · show Act.put _ (some 27) _ = _
    simp only [Act.put, pA, pB, pC, pD, pE]; rfl
  refine pure_ (i := 23) (N := some 28) (v := ?_) (a' := ?_) (bA 25 16777215) rfl rfl (any_of HT_.out (by kernel_rfl)) (fun _ _ _ h => h) (Or.inl ⟨by rfl, ?_⟩) ?_ ?_
  rotate_left; · intro w'; go_simp; with_reducible rfl
  rotate_left; · simp only [Act.put, pA, pB, pC, pD, pE]; rfl
  refine pure_ (i := 24) (N := some 29) (v := ?_) (a' := ?_) (bA 25 33554431) rfl rfl (any_of HT_.out (by kernel_rfl)) (fun _ _ _ h => h) (Or.inl ⟨by rfl, ?_⟩) ?_ ?_
  rotate_left; · intro w'; go_simp; with_reducible rfl
  rotate_left; · simp only [Act.put, pA, pB, pC, pD, pE]; rfl
  refine done_ (done_of HT_.out (by kernel_rfl)) ?_
  clear hHeld HT_ HW_; clear q1 q2 q3 l1 l2 n1 n2 HC
  obtain ⟨h, ha⟩ := HH.out
  have hM1 : CdM w1 gc ga go gi gp gm lk (arF arcs) (vtF cls ob) (vtF cls ib) ob ib (ouF arcs) (inF arcs) (fun v => cls v ≠ none) tg (ext pb w w1) (ext cb w w1) := h.m.part (w' := w1) ⟨hk1.os, hk1.tape, hk1.output, hk1.size, hk1.block⟩
  have hgo : go ≠ gi := tgne h.m.t.o h.m.t.i (by simp)
  have q1 := hM1.hc.cell 1 rfl
  obtain ⟨o1, hd1, hm3⟩ := MQ.delete (P := Try.prog) (T := 54) hM1.ho Try.underlying54 Try.underlying3 v 0 3
  rw [vtF_del] at hm3
  have hat1 : At (putObj w1 go o1) gc _ _ := hM1.hc.putObj (hM1.ho.ne hM1.hc)
  have q2 := hat1.cell 2 rfl
  obtain ⟨o2, hd2, hm4⟩ := MQ.delete (P := Try.prog) (T := 54) (MQ.put2 hM1.hi hgo.symm o1) Try.underlying54 Try.underlying3 v 0 3
  rw [vtF_del] at hm4
  have HE := Lib.hid (dropv_end h ha hM1 hP1 ⟨hk1.os, hk1.tape, hk1.output, hk1.size, hk1.block⟩ (W := putObj (putObj w1 go o1) gi o2) ⟨kpt_put (kpt_put (Kpt.refl _ w1) (fun _ => .inl rfl) o1) (fun _ => .inr rfl) o2, MQ.put2 hm3 hgo o2, hm4, hgo⟩ (hat1.putObj (hM1.hi.ne hM1.hc)))
  clear h ha hM1 hP1 hk1 hgo hat1 hm3 hm4 HH
  go_wp2
  go_ret
  exact ⟨rfl, HE.out⟩
end
end Go.Proofs.Ythomnpgpbhpojaa.Cd

/- cond: AddArc, where it changes nothing. -/
namespace Go.Proofs.Ythomnpgpbhpojaa.Cd
open Go Go.RowKit Go.MapKept Go.Proofs.Ythomnpgpbhpojaa.Mem Go.Proofs.Ythomnpgpbhpojaa.Sl Go.Proofs.Ythomnpgpbhpojaa.Lw Go.Proofs.Ythomnpgpbhpojaa.Pt Go.Proofs.YthomnpgpbhpojaaW.PrintWords Go.Proofs.YthomnpgpbhpojaaW.PrintLast
attribute [local go_sem ↓] Go.wp_at_zero Go.wp_at_succ
set_option linter.unusedSimpArgs false
set_option linter.unusedVariables false

section
variable {w w' W W' w1 : World} {gc ga go gi gp gm : Nat} {lk : Int} {arcs : Int → Option (Int × Int)} {ob ib : Int → Nat} {cls : Int → Option Nat} {row : Nat → List Int} {val : Nat → Value} {tg : Nat → Nat × Int} {pb cb : Nat → Prop} {fa fo fi : Int → Option Value} {Fo Fi : Int → Int → Option Value} {D : Int → Prop}
theorem zero_arc : ∀ w : World, (zeroValue 69).run Try.prog w = .ok (.agg #[.int .i64 0, .int .i64 0]) w := fun w => by kernel_rfl
theorem lookE (h : MQ w ga (arF arcs)) (e : Int) : (Instr.lookup 53 (.map (some ga)) (.int .i64 e) true).run Try.prog w = .ok (.tuple #[(arF arcs e).getD (.agg #[.int .i64 0, .int .i64 0]), .bool (arF arcs e).isSome]) w :=
  h.lookup_ok Try.underlying53 Try.underlying3 zero_arc e
theorem eqm_none (w : World) : (binOp .eql 53 (.map none) (.map none)).run Try.prog w = .ok (.bool true) w := by kernel_rfl
theorem eqm_some (b : Nat) (w : World) : (binOp .eql 53 (.map (some b)) (.map none)).run Try.prog w = .ok (.bool false) w := by kernel_rfl
set_option maxHeartbeats 4000000 in
set_option maxRecDepth 100000 in
theorem adda_twice (h : CdS w gc ga go gi gp gm lk arcs ob ib cls row val tg pb cb) (e u v : Int) (he : arcs e ≠ none) :
    Calls Try.prog 13 #[.pointer (some ⟨gc, 0, none⟩), .int .i64 e, .int .i64 u, .int .i64 v] w fun e w' => e = .returned (.int .i64 2) ∧ Below w.heap.size w w' := by
  have q0 := h.m.hc.cell 0 rfl
  have l0 := lookE h.m.ha e
  obtain ⟨p, hp⟩ : ∃ p, arcs e = some p := by
    cases hx : arcs e with
    | none => exact absurd hx he
    | some p => exact ⟨p, rfl⟩
  have he2 : arF arcs e = some (.agg #[.int .i64 p.1, .int .i64 p.2]) := by simp [arF, hp, aV]
  rw [he2, Option.getD_some, Option.isSome_some] at l0
  clear h he hp he2
  go_enter Try.func13, Try.ntmps13
  go_wp2
  go_ret
  exact ⟨rfl, (Below.refl w.heap.size w).alloc (Nat.le_refl _) _⟩
set_option maxHeartbeats 4000000 in
set_option maxRecDepth 100000 in
theorem adda_nou (h : CdS w gc ga go gi gp gm lk arcs ob ib cls row val tg pb cb) (e u v : Int) (he : arcs e = none) (hu : cls u = none) :
    Calls Try.prog 13 #[.pointer (some ⟨gc, 0, none⟩), .int .i64 e, .int .i64 u, .int .i64 v] w fun e w' => e = .returned (.int .i64 5) ∧ Below w.heap.size w w' := by
  have q0 := h.m.hc.cell 0 rfl
  have l0 := lookE h.m.ha e
  have he2 : arF arcs e = none := by simp [arF, he]
  rw [he2, Option.getD_none, Option.isSome_none] at l0
  have hb := ((Below.refl w.heap.size w).alloc (Nat.le_refl _) (.cells #[.int .i64 0, .int .i64 0] 69))
  have HB := Lib.hid hb
  have hh := h.below hb
  have q1 := hh.m.hc.cell 1 rfl
  have em0 := eqm_none
  have em1 := eqm_some
  have l1 := lookV hh.m.ho u
  rw [vtF_none hu, Option.getD_none] at l1
  clear h he he2 hu hh hb
  go_enter Try.func13, Try.ntmps13
  go_wp2
  go_ret
  exact ⟨rfl, HB.out⟩
set_option maxHeartbeats 4000000 in
set_option maxRecDepth 100000 in
theorem adda_nov (h : CdS w gc ga go gi gp gm lk arcs ob ib cls row val tg pb cb) (e u v : Int) (he : arcs e = none) (hu : cls u ≠ none) (hv : cls v = none) :
    Calls Try.prog 13 #[.pointer (some ⟨gc, 0, none⟩), .int .i64 e, .int .i64 u, .int .i64 v] w fun e w' => e = .returned (.int .i64 5) ∧ Below w.heap.size w w' := by
  have q0 := h.m.hc.cell 0 rfl
  have l0 := lookE h.m.ha e
  have he2 : arF arcs e = none := by simp [arF, he]
  rw [he2, Option.getD_none, Option.isSome_none] at l0
  have hb := ((Below.refl w.heap.size w).alloc (Nat.le_refl _) (.cells #[.int .i64 0, .int .i64 0] 69))
  have HB := Lib.hid hb
  have hh := h.below hb
  have q1 := hh.m.hc.cell 1 rfl
  have em0 := eqm_none
  have em1 := eqm_some
  have l1 := lookV hh.m.ho u
  have l2 := lookV hh.m.ho v
  rw [vtF_some hu, Option.getD_some] at l1
  rw [vtF_none hv, Option.getD_none] at l2
  clear h he he2 hu hv hh hb
  go_enter Try.func13, Try.ntmps13
  go_wp2
  go_ret
  exact ⟨rfl, HB.out⟩
end
end Go.Proofs.Ythomnpgpbhpojaa.Cd
