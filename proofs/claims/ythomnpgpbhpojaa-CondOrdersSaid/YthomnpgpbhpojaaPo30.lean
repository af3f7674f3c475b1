/- The reference's DropVertex. -/
import Derived.Test.YthomnpgpbhpojaaPo5
import Derived.Test.YthomnpgpbhpojaaPo29
namespace Go.Proofs.Ythomnpgpbhpojaa.Cd
open Go Go.RowKit Go.MapKept Go.Proofs.Ythomnpgpbhpojaa.Mem Go.Proofs.Ythomnpgpbhpojaa.Sl Go.Proofs.Ythomnpgpbhpojaa.Lw Go.Proofs.Ythomnpgpbhpojaa.Pt Go.Proofs.YthomnpgpbhpojaaW.PrintWords Go.Proofs.YthomnpgpbhpojaaW.PrintLast
attribute [local go_sem ↓] Go.wp_at_zero Go.wp_at_succ
set_option linter.unusedSimpArgs false
set_option linter.unusedVariables false

def tb24_2.T2 : Bool × List (List Nat × List Nat) := (true, [([], []), ([0], [0]), ([1], [1]), ([2], [2]), ([2], [2]), ([3, 4, 2, 2], [2, 3, 4]), ([5, 2], [2, 5]), ([2], [2]), ([2], [2]), ([7, 8, 5, 2], [2, 7, 8]), ([9, 2], [2, 9]), ([6, 10, 2], [2, 6, 10]), ([11, 2], [2, 11]), ([2, 12], [2, 12])])
def tb24_2.B2 : List Nat := [0, 1, 3, 7, 7, 31, 63, 7, 7, 447, 959, 2047, 4095, 8191]
theorem tb24_2.tab2 : rtab .any (opsOf Try.f24 2) = tb24_2.T2 := by kernel_rfl
theorem tb24_2.bits2 : waitsOk tb24_2.T2.2 tb24_2.B2 = true := by kernel_rfl
set_option maxHeartbeats 8000000 in
set_option maxRecDepth 100000 in
theorem dropvR_no {gw : Int} (w : World) (A AE : Option Addr) (c m ce n : Nat) (sl : List Int) (v : Int) (hv : RdI w A sl) (hs : sl.Pairwise (· < ·)) (hn : sl.length = n) (hl : n ≤ 1000) (hin : v ∉ sl) :
    Calls Try.prog 24 #[gV A n c (.slice AE m ce) gw, .int .i64 v] w fun e w' => e = .returned (.tuple #[gV A n c (.slice AE m ce) gw, .bool false]) ∧ Below w.heap.size w w' := by
  have hpc := fun (W : World) (hW : Below w.heap.size w W) => place_calls (gw := gw) W A AE c m ce sl v (hv.below hW) hs (by omega)
  simp only [plI_neg hin, hn] at hpc
  unfold gV at hpc ⊢
  have HPC := Lib.hid hpc
  clear hv hs hl hin hn hpc
  go_enter Try.func24, Try.ntmps24
  go_wp2_with fail
  have hb2 : Below w.heap.size w ((w.alloc (.cells #[.slice A n c, .slice AE m ce, .int .i64 0, .int .i64 gw] 28)).alloc (.cells #[.slice none 0 0, .slice none 0 0, .int .i64 0, .int .i64 0] 28)) := ((Below.refl _ _).alloc (Nat.le_refl _) _).alloc (by simp) _
  refine (HPC.out _ hb2).mono ?_
  rintro e w3 ⟨rfl, hb3⟩
  have hat1 : At w3 w.heap.size [.slice A n c, .slice AE m ce, .int .i64 0, .int .i64 gw] 28 := ((At.made (w := w) (a := #[.slice A n c, .slice AE m ce, .int .i64 0, .int .i64 gw]) rfl rfl).al).below hb3 (by simp; omega)
  have hat2 : At w3 (w.heap.size + 1) [.slice none 0 0, .slice none 0 0, .int .i64 0, .int .i64 0] 28 := (At.made (by simp) rfl).below hb3 (by simp)
  have HB := Lib.hid (hb2.trans (hb3.mono (by simp; omega)))
  have q0 := hat1.cell 0 rfl
  have q1 := hat1.cell 1 rfl
  have q2 := hat1.cell 2 rfl
  have q3 := hat1.cell 3 rfl
  have HA := Lib.hid (And.intro hat1 hat2)
  clear hat1 hat2 hb2 hb3 HPC
  go_upto_region 2 with (fail)
  refine start_ (n := 14) (S := fun w' => w'.cell? ⟨w.heap.size, 0, none⟩ = some (.slice A n c) ∧ w'.cell? ⟨w.heap.size, 1, none⟩ = some (.slice AE m ce) ∧ w'.cell? ⟨w.heap.size, 2, none⟩ = some (.int .i64 0) ∧ w'.cell? ⟨w.heap.size, 3, none⟩ = some (.int .i64 gw)) (ds := []) (bA 14 0) (by kernel_rfl) rfl rfl ⟨q0, q1, q2, q3⟩ (fun hHeld => ?_)
  refine with_tabW tb24_2.tab2 tb24_2.bits2 (fun HT_ HW_ => ?_)
  refine pw_ 0 11 (bA 14 1) HT_.out ?_
  refine pw_ 1 12 (bA 14 3) HT_.out ?_
  refine pw_ 2 13 (bA 14 7) HT_.out ?_
  refine pu_ 3 14 (bA 14 15) HT_.out ?_
  refine pu_ 4 15 (bA 14 31) HT_.out ?_
  refine pu_ 5 16 (bA 14 63) HT_.out ?_
  refine pu_ 6 17 (bA 14 127) HT_.out ?_
  refine pu_ 7 18 (bA 14 255) HT_.out ?_
  refine pu_ 8 19 (bA 14 511) HT_.out ?_
  refine pu_ 9 20 (bA 14 1023) HT_.out ?_
  refine pu_ 10 21 (bA 14 2047) HT_.out ?_
  refine pu_ 11 22 (bA 14 4095) HT_.out ?_
  refine pu_ 12 23 (bA 14 8191) HT_.out ?_
  refine pw_ 13 24 (bA 14 16383) HT_.out ?_
  refine done_ (done_of HT_.out (by kernel_rfl)) ?_
  clear hHeld HT_ HW_; clear q0 q1 q2 q3
  refine gen_then (fun W => At W w.heap.size [.slice A n c, .slice AE m ce, .int .i64 0, .int .i64 gw] 28 ∧ At W (w.heap.size + 1) [.slice none 0 0, .slice none 0 0, .int .i64 0, .int .i64 0] 28 ∧ Below w.heap.size w W) ⟨HA.out.1, HA.out.2, HB.out.drew⟩ ?_
  clear HA HB
  intro w4 hA4
  have HA4 := Lib.hid hA4
  clear hA4
  obtain ⟨hat1, hat2, hb4⟩ := HA4.out
  have HB4 := Lib.hid hb4
  clear hb4
  have q0 := hat1.cell 0 rfl
  have q1 := hat1.cell 1 rfl
  have q2 := hat1.cell 2 rfl
  have q3 := hat1.cell 3 rfl
  have f0 := hat2.free 0
  have f1 := hat2.free 1
  have f2 := hat2.free 2
  have f3 := hat2.free 3
  have r0 := hat2.cell 0 rfl
  have r1 := hat2.cell 1 rfl
  have r2 := hat2.cell 2 rfl
  have r3 := hat2.cell 3 rfl
  have hat3 : At ((((w4.setCell ⟨w.heap.size + 1, 0, none⟩ (.slice A n c)).setCell ⟨w.heap.size + 1, 1, none⟩ (.slice AE m ce)).setCell ⟨w.heap.size + 1, 2, none⟩ (.int .i64 0)).setCell ⟨w.heap.size + 1, 3, none⟩ (.int .i64 gw)) (w.heap.size + 1) [.slice A n c, .slice AE m ce, .int .i64 0, .int .i64 gw] 28 := (((hat2.put rfl).put rfl).put rfl).put rfl
  have t0 := hat3.cell 0 rfl
  have t1 := hat3.cell 1 rfl
  have t2 := hat3.cell 2 rfl
  have t3 := hat3.cell 3 rfl
  clear hat1 hat2 hat3 HA4
  go_wp2
  refine bodyPost_ret (v := .tuple #[.agg #[.slice A n c, .slice AE m ce, .int .i64 0, .int .i64 gw], .bool false]) ?_ rfl ⟨rfl, (((HB4.out.setCell (by simp) _).setCell (by simp) _).setCell (by simp) _).setCell (by simp) _⟩
  simp only [results]; go_simp
set_option maxHeartbeats 8000000 in
set_option maxRecDepth 100000 in
theorem dropvR_arcs {gw : Int} (w : World) (A AE : Option Addr) (c m ce n : Nat) (sl : List Int) (es : List (Int × Int × Int)) (v : Int) (hv : RdI w A sl) (hs : sl.Pairwise (· < ·)) (hn : sl.length = n) (hl : n ≤ 1000) (hin : v ∈ sl) (he : RdG w AE es) (hm : es.length = m) (hr : m ≤ 1000) (ha : ∃ p ∈ es, p.2.1 = v ∨ p.2.2 = v) :
    Calls Try.prog 24 #[gV A n c (.slice AE m ce) gw, .int .i64 v] w fun e w' => e = .returned (.tuple #[gV A n c (.slice AE m ce) gw, .bool false]) ∧ Below w.heap.size w w' := by
  have hpc := fun (W : World) (hW : Below w.heap.size w W) => place_calls (gw := gw) W A AE c m ce sl v (hv.below hW) hs (by omega)
  have hoc := fun (W : World) (hW : Below w.heap.size w W) => out_calls (gw := gw) W A AE n c ce es v (he.below hW) (by omega)
  have hic := fun (W : World) (hW : Below w.heap.size w W) => in_calls7 (gw := gw) W A AE n c ce es v (he.below hW) (by omega)
  have HAR := Lib.hid (show ∀ mo mi : Nat, (mo = 0 ↔ ∀ p ∈ es, p.2.1 ≠ v) → (mi = 0 ↔ ∀ p ∈ es, p.2.2 ≠ v) → (0 : Int) < (mo : Int) + (mi : Int) from fun mo mi h1 h2 => by
    obtain ⟨p, hp, h | h⟩ := ha
    · have : mo ≠ 0 := fun e => h1.1 e p hp h
      omega
    · have : mi ≠ 0 := fun e => h2.1 e p hp h
      omega)
  have hpl : (0 : Int) ≤ plI sl v := by rw [plI_pos (by simpa using hin)]; omega
  obtain ⟨pl, hp⟩ : ∃ pl, plI sl v = pl := ⟨_, rfl⟩
  rw [hp] at hpl
  have hpd : decide (pl < 0) = false := decide_eq_false (by omega)
  simp only [hp, hn] at hpc
  rw [hm] at hoc hic
  unfold gV at hpc hoc hic ⊢
  have HPC := Lib.hid hpc
  have HOI := Lib.hid (And.intro hoc hic)
  clear hv hs hl hin hn hp hpc hoc hic he hm ha
  go_enter Try.func24, Try.ntmps24
  go_wp2_with fail
  have hb2 : Below w.heap.size w ((w.alloc (.cells #[.slice A n c, .slice AE m ce, .int .i64 0, .int .i64 gw] 28)).alloc (.cells #[.slice none 0 0, .slice none 0 0, .int .i64 0, .int .i64 0] 28)) := ((Below.refl _ _).alloc (Nat.le_refl _) _).alloc (by simp) _
  refine (HPC.out _ hb2).mono ?_
  rintro e w3 ⟨rfl, hb3⟩
  have hat1 : At w3 w.heap.size [.slice A n c, .slice AE m ce, .int .i64 0, .int .i64 gw] 28 := ((At.made (w := w) (a := #[.slice A n c, .slice AE m ce, .int .i64 0, .int .i64 gw]) rfl rfl).al).below hb3 (by simp; omega)
  have hat2 : At w3 (w.heap.size + 1) [.slice none 0 0, .slice none 0 0, .int .i64 0, .int .i64 0] 28 := (At.made (by simp) rfl).below hb3 (by simp)
  have hb := hb2.trans (hb3.mono (by simp; omega))
  have q0 := hat1.cell 0 rfl
  have q1 := hat1.cell 1 rfl
  have q2 := hat1.cell 2 rfl
  have q3 := hat1.cell 3 rfl
  have HOC := Lib.hid (fun (W : World) (hW : Below w3.heap.size w3 W) => HOI.out.1 W (hb.trans (hW.mono hb.size)))
  have HIC := Lib.hid (fun (W : World) (hW : Below w3.heap.size w3 W) => HOI.out.2 W (hb.trans (hW.mono hb.size)))
  have HA := Lib.hid (And.intro hat1 (And.intro hat2 hb))
  clear hat1 hat2 hb2 hb3 hb HPC HOI
  go_upto_region 2 with (fail)
  refine start_ (n := 14) (S := fun w' => w'.cell? ⟨w.heap.size, 0, none⟩ = some (.slice A n c) ∧ w'.cell? ⟨w.heap.size, 1, none⟩ = some (.slice AE m ce) ∧ w'.cell? ⟨w.heap.size, 2, none⟩ = some (.int .i64 0) ∧ w'.cell? ⟨w.heap.size, 3, none⟩ = some (.int .i64 gw)) (ds := []) (bA 14 0) (by kernel_rfl) rfl rfl ⟨q0, q1, q2, q3⟩ (fun hHeld => ?_)
  refine with_tabW tb24_2.tab2 tb24_2.bits2 (fun HT_ HW_ => ?_)
  refine pw_ 0 11 (bA 14 1) HT_.out ?_
  refine pw_ 1 12 (bA 14 3) HT_.out ?_
  refine pw_ 2 13 (bA 14 7) HT_.out ?_
  refine pw_ 4 15 (bA 14 23) HT_.out ?_
  refine pw_ 8 19 (bA 14 279) HT_.out ?_
  refine tw_ 3 14 (bA 14 287) HT_.out HW_.out hHeld (hv := by rintro w' ⟨s0, s1, s2, s3⟩; go_simp; with_reducible rfl) (h := ?_)
  refine tw_ 7 18 (bA 14 415) HT_.out HW_.out hHeld (hv := by rintro w' ⟨s0, s1, s2, s3⟩; go_simp; with_reducible rfl) (h := ?_)
  refine one_ (i := 5) (N := some 16) (bA 14 447) rfl rfl (one_of HT_.out (by kernel_rfl)) (by decide) (fun K hK => ?_)
  refine gw_ Try.func49 #[.agg #[.slice A n c, .slice AE m ce, .int .i64 0, .int .i64 gw], .int .i64 v] ?_
  with_reducible refine ((HOC.out w3.drew (Below.refl _ _).drew)).mono ?_
  rintro eo wa ⟨Ao, mo, co, rfl, hmo, hzo, hba⟩
  refine ⟨_, rfl, ?_⟩
  refine hK.out _ _ ⟨(keep_at hba (show (w3.drew).cell? _ = _ from q0)), (keep_at hba (show (w3.drew).cell? _ = _ from q1)), (keep_at hba (show (w3.drew).cell? _ = _ from q2)), (keep_at hba (show (w3.drew).cell? _ = _ from q3))⟩ (fun hHeld => ?_)
  clear hK K
  refine norm_ (a' := ?_) ?_ ?_
  rotate_left
  · show Act.put _ (some 16) _ = _
    simp only [Act.put, pA, pB, pC, pD, pE]; rfl
  refine pw_ 6 17 (bA 14 511) HT_.out ?_
  refine one_ (i := 9) (N := some 20) (bA 14 1023) rfl rfl (one_of HT_.out (by kernel_rfl)) (by decide) (fun K hK => ?_)
  refine gw_ Try.func50 #[.agg #[.slice A n c, .slice AE m ce, .int .i64 0, .int .i64 gw], .int .i64 v] ?_
  with_reducible refine ((HIC.out wa (Below.drewL hba))).mono ?_
  rintro ei wb ⟨Ai, mi, ci, rfl, hmi, hzi, hbb⟩
  refine ⟨_, rfl, ?_⟩
  have hadd : wrap64 ((mo : Int) + (mi : Int)) = (mo : Int) + (mi : Int) := by unfold wrap64; omega
  have hpos : (0 : Int) < (mo : Int) + (mi : Int) := HAR.out mo mi hzo hzi
  refine hK.out _ _ ⟨(keep_at hbb (keep_at hba (show (w3.drew).cell? _ = _ from q0))), (keep_at hbb (keep_at hba (show (w3.drew).cell? _ = _ from q1))), (keep_at hbb (keep_at hba (show (w3.drew).cell? _ = _ from q2))), (keep_at hbb (keep_at hba (show (w3.drew).cell? _ = _ from q3)))⟩ (fun hHeld => ?_)
  clear hK K
  refine norm_ (a' := ?_) ?_ ?_
  rotate_left
  · show Act.put _ (some 20) _ = _
    simp only [Act.put, pA, pB, pC, pD, pE]; rfl
  refine pw_ 10 21 (bA 14 2047) HT_.out ?_
  refine pw_ 11 22 (bA 14 4095) HT_.out ?_
  refine pw_ 12 23 (bA 14 8191) HT_.out ?_
  refine pw_ 13 24 (bA 14 16383) HT_.out ?_
  refine done_ (done_of HT_.out (by kernel_rfl)) ?_
  clear hHeld HT_ HW_
  obtain ⟨hat1, hat2, hb⟩ := HA.out
  have hb5 : Below w3.heap.size w3 wb := ((Below.refl _ w3).drew.trans hba).trans (hbb.mono hba.size)
  have HB := Lib.hid (And.intro (hat1.below hb5 hat1.lt) (And.intro (hat2.below hb5 hat2.lt) (hb.trans (hb5.mono hb.size))))
  clear q0 q1 q2 q3 hat1 hat2 hb hb5 hba hbb HA HOC HIC HAR hadd hpos hzo hzi
  obtain ⟨hat1, hat2, hb⟩ := HB.out
  have q0 := hat1.cell 0 rfl
  have q1 := hat1.cell 1 rfl
  have q2 := hat1.cell 2 rfl
  have q3 := hat1.cell 3 rfl
  have f0 := hat2.free 0
  have f1 := hat2.free 1
  have f2 := hat2.free 2
  have f3 := hat2.free 3
  have r0 := hat2.cell 0 rfl
  have r1 := hat2.cell 1 rfl
  have r2 := hat2.cell 2 rfl
  have r3 := hat2.cell 3 rfl
  have hat3 : At ((((wb.setCell ⟨w.heap.size + 1, 0, none⟩ (.slice A n c)).setCell ⟨w.heap.size + 1, 1, none⟩ (.slice AE m ce)).setCell ⟨w.heap.size + 1, 2, none⟩ (.int .i64 0)).setCell ⟨w.heap.size + 1, 3, none⟩ (.int .i64 gw)) (w.heap.size + 1) [.slice A n c, .slice AE m ce, .int .i64 0, .int .i64 gw] 28 := (((hat2.put rfl).put rfl).put rfl).put rfl
  have t0 := hat3.cell 0 rfl
  have t1 := hat3.cell 1 rfl
  have t2 := hat3.cell 2 rfl
  have t3 := hat3.cell 3 rfl
  have HC := Lib.hid hb
  clear hat1 hat2 hat3 hb HB
  go_wp2
  refine bodyPost_ret (v := .tuple #[.agg #[.slice A n c, .slice AE m ce, .int .i64 0, .int .i64 gw], .bool false]) ?_ rfl ⟨rfl, (((HC.out.setCell (by simp) _).setCell (by simp) _).setCell (by simp) _).setCell (by simp) _⟩
  simp only [results]; go_simp
theorem filter_ne {sl : List Int} (hs : sl.Pairwise (· < ·)) {i : Nat} {v : Int} (hi : sl[i]? = some v) : sl.filter (fun x => decide (x ≠ v)) = sl.take i ++ sl.drop (i + 1) := by
  obtain ⟨hl, he⟩ := List.getElem?_eq_some_iff.1 hi
  have h1 : sl = sl.take i ++ v :: sl.drop (i + 1) := by
    rw [← he, List.getElem_cons_drop, List.take_append_drop]
  have h2 := hs
  rw [h1, List.pairwise_append] at h2
  obtain ⟨_, h3, h4⟩ := h2
  rw [List.pairwise_cons] at h3
  conv => lhs; rw [h1]
  rw [List.filter_append, List.filter_cons, if_neg (by simp), List.filter_eq_self.2, List.filter_eq_self.2]
  · intro x hx
    have := h3.1 x hx
    simp only [decide_eq_true_eq]
    omega
  · intro x hx
    have := h4 x hx v (by simp)
    simp only [decide_eq_true_eq]
    omega
theorem RdV.cut {w : World} {base size n c i : Nat} {e : TypeId} {A : Option Addr} {xs : List Value} (h : w.ownsRow base e size (.slice A n c) n xs) (h1 : ∀ u ∈ xs, u.oneCell' = true) (hi : i < n) :
    ∃ g, A = some ⟨g, 0, none⟩ ∧ n ≤ c ∧ RdV w (.slice (some ⟨g, 0, none⟩) i c) i size (xs.take (i * size)) ∧ (c = i + 1 → RdV w (.slice (some ⟨g, 0, none⟩) (n - (i + 1)) (c - (i + 1))) (n - (i + 1)) size (xs.drop ((i + 1) * size))) ∧
      RdV w (.slice (some ⟨g, (i + 1) * size, none⟩) (n - (i + 1)) (c - (i + 1))) (n - (i + 1)) size (xs.drop ((i + 1) * size)) := by
  rcases h.2 with ⟨_, h2⟩ | ⟨g, cap, cur, hv, _, hh, hnc, _, _, _⟩
  · omega
  · cases hv
    have hlen : xs.length = n * size := h.1
    have hd : (xs.drop ((i + 1) * size)).length = (n - (i + 1)) * size := by rw [List.length_drop, hlen, Nat.sub_mul]
    have hcell : ∀ j u, xs[j]? = some u → w.cell? ⟨g, j, none⟩ = some u := fun j u hu => by
      have hj := (List.getElem?_eq_some_iff.1 hu).1
      exact (h.cellAt j (by omega)).trans hu
    refine ⟨g, rfl, hnc, ⟨?_, fun u hu => h1 u (List.mem_of_mem_take hu), .inr ⟨_, _, rfl, fun j u hu => ?_⟩⟩, fun hc => ?_, ⟨hd, fun u hu => h1 u (List.mem_of_mem_drop hu), .inr ⟨_, _, rfl, fun j u hu => ?_⟩⟩⟩
    · rw [List.length_take, hlen]
      exact Nat.min_eq_left (Nat.mul_le_mul_right _ (by omega))
    · rw [List.getElem?_take] at hu
      split at hu
      · rw [add_plain]
        simpa using hcell j u hu
      · cases hu
    · have h0 : n - (i + 1) = 0 := by omega
      have hx : xs.drop ((i + 1) * size) = [] := List.length_eq_zero_iff.1 (by rw [hd, h0, Nat.zero_mul])
      rw [hx]
      exact ⟨by rw [h0, Nat.zero_mul]; rfl, by simp, .inr ⟨_, _, rfl, by simp⟩⟩
    · rw [List.getElem?_drop] at hu
      have ha : (⟨g, (i + 1) * size, none⟩ : Addr).add j = ⟨g, (i + 1) * size + j, none⟩ := by
        unfold Addr.add
        split <;> simp_all
      rw [ha]
      exact hcell _ u hu
end Go.Proofs.Ythomnpgpbhpojaa.Cd

/- The reference's DropVertex where the vertex goes. -/
namespace Go.Proofs.Ythomnpgpbhpojaa.Cd
open Go Go.RowKit Go.MapKept Go.Proofs.Ythomnpgpbhpojaa.Mem Go.Proofs.Ythomnpgpbhpojaa.Sl Go.Proofs.Ythomnpgpbhpojaa.Lw Go.Proofs.Ythomnpgpbhpojaa.Pt Go.Proofs.YthomnpgpbhpojaaW.PrintWords Go.Proofs.YthomnpgpbhpojaaW.PrintLast
attribute [local go_sem ↓] Go.wp_at_zero Go.wp_at_succ
set_option linter.unusedSimpArgs false
set_option linter.unusedVariables false


theorem RdV.cutR {P : Program} {w : World} {base size n c i : Nat} {t e : TypeId} {ie : TypeInfo} {A : Option Addr} {xs : List Value} (ht : P.underlying t = some (.slice e)) (hie : P.info? e = some ie) (his : ie.size = size) (h : w.ownsRow base e size (.slice A n c) n xs) (h1 : ∀ u ∈ xs, u.oneCell' = true) (hi : i < n) :
    ∃ g, A = some ⟨g, 0, none⟩ ∧ n ≤ c ∧ RdV w (.slice (some ⟨g, 0, none⟩) i c) i size (xs.take (i * size)) ∧ ∃ AD cD, (∀ W : World, (Instr.slice t (.slice (some ⟨g, 0, none⟩) n c) (some (.int .i64 ((i : Int) + 1))) none none).run P W = .ok (.slice AD (n - (i + 1)) cD) W) ∧
      RdV w (.slice AD (n - (i + 1)) cD) (n - (i + 1)) size (xs.drop ((i + 1) * size)) := by
  obtain ⟨g, h2, hnc, h3, h4, h5⟩ := RdV.cut h h1 hi
  have he : P.elem t = e := by simp [Program.elem, ht]
  have hrun : ∀ W : World, (Instr.slice t (.slice (some ⟨g, 0, none⟩) n c) (some (.int .i64 ((i : Int) + 1))) none none).run P W = .ok (sliced (some ⟨g, 0, none⟩) (i + 1) n c size) W := fun W => by
    have := run_slice_l (P := P) W t (some ⟨g, 0, none⟩) n c (by rw [he]; exact ht) .i64 ((i : Int) + 1) (by omega) (by omega)
    rw [this, he]
    simp [sizeOf, typeInfo, hie, his]
  refine ⟨g, h2, hnc, h3, ?_⟩
  by_cases hc : c = i + 1
  · refine ⟨some ⟨g, 0, none⟩, c - (i + 1), fun W => by rw [hrun W]; simp [sliced, hc], h4 hc⟩
  · refine ⟨some ⟨g, (i + 1) * size, none⟩, c - (i + 1), fun W => ?_, h5⟩
    have ha : (⟨g, 0, none⟩ : Addr).add ((i + 1) * size) = ⟨g, (i + 1) * size, none⟩ := add_plain _ _
    rw [hrun W]
    simp [sliced, hc, ha]
set_option maxHeartbeats 8000000 in
set_option maxRecDepth 100000 in
theorem dropvR_yes {gw : Int} (w : World) (A AE : Option Addr) (c m ce n : Nat) (sl : List Int) (es : List (Int × Int × Int)) (v : Int) (hv : w.ownsRow 0 3 1 (.slice A n c) n (ints sl)) (hs : sl.Pairwise (· < ·)) (hn : sl.length = n) (hl : n ≤ 1000) (hin : v ∈ sl) (he : RdG w AE es) (hm : es.length = m) (hr : m ≤ 1000) (ha : ∀ p ∈ es, p.2.1 ≠ v ∧ p.2.2 ≠ v) :
    Calls Try.prog 24 #[gV A n c (.slice AE m ce) gw, .int .i64 v] w fun e w' => ∃ A' c', e = .returned (.tuple #[gV A' (n - 1) c' (.slice AE m ce) gw, .bool true]) ∧ w'.ownsRow w.heap.size 3 1 (.slice A' (n - 1) c') (n - 1) (ints (sl.filter fun x => decide (x ≠ v))) ∧ Below w.heap.size w w' := by
  obtain ⟨i1, hi1, hz1, hs1, hy1⟩ := info_parts Lw.info_int
  obtain ⟨i, hi, hiv⟩ := List.getElem_of_mem hin
  have hiq : sl[i]? = some v := by rw [List.getElem?_eq_getElem hi, hiv]
  have hin' : i < n := by omega
  obtain ⟨g, rfl, hnc, hr1, AD, cD, hsl, hr2⟩ := RdV.cutR (P := Try.prog) (t := 25) (e := 3) Try.underlying25 hi1 hs1 hv (fun u hu => by
    unfold ints at hu
    obtain ⟨x, _, rfl⟩ := List.mem_map.1 hu
    rfl) hin'
  rw [Nat.mul_one] at hr1 hr2
  have hrd := (RdI.of_own hv).1
  have hpc := fun (W : World) (hW : Below w.heap.size w W) => place_calls (gw := gw) W (some ⟨g, 0, none⟩) AE c m ce sl v (hrd.below hW) hs (by omega)
  have hoc := fun (W : World) (hW : Below w.heap.size w W) => (out_calls (gw := gw) W (some ⟨g, 0, none⟩) AE n c ce es v (he.below hW) (by omega)).mono fun en w' ⟨Ao, mo, co, h1, _, h2, h3⟩ => (show ∃ Ao co, en = Ending.returned (.slice Ao 0 co) ∧ Below W.heap.size W w' from by
    obtain rfl := h2.2 fun p hp => (ha p hp).1
    exact ⟨Ao, co, h1, h3⟩)
  have hic := fun (W : World) (hW : Below w.heap.size w W) => (in_calls7 (gw := gw) W (some ⟨g, 0, none⟩) AE n c ce es v (he.below hW) (by omega)).mono fun en w' ⟨Ao, mo, co, h1, _, h2, h3⟩ => (show ∃ Ao co, en = Ending.returned (.slice Ao 0 co) ∧ Below W.heap.size W w' from by
    obtain rfl := h2.2 fun p hp => (ha p hp).2
    exact ⟨Ao, co, h1, h3⟩)
  have hpd : decide ((i : Int) < 0) = false := decide_eq_false (by omega)
  have hpl : (0 : Int) ≤ (i : Int) := by omega
  simp only [plI_at hs hiq, hn] at hpc
  rw [filter_ne hs hiq, ints_app]
  have hlt : (ints (sl.take i)).length = i := by rw [ints_length, List.length_take]; omega
  have hld : (ints (sl.drop (i + 1))).length = n - (i + 1) := by rw [ints_length, List.length_drop, hn]
  have htk : (ints sl).take i = ints (sl.take i) := by unfold ints; rw [List.map_take]
  have hdr : (ints sl).drop (i + 1) = ints (sl.drop (i + 1)) := by unfold ints; rw [List.map_drop]
  rw [htk] at hr1
  rw [hdr] at hr2
  rw [hm] at hoc hic
  obtain ⟨X1, hX1⟩ : ∃ X, ints (sl.take i) = X := ⟨_, rfl⟩
  obtain ⟨X2, hX2⟩ : ∃ X, ints (sl.drop (i + 1)) = X := ⟨_, rfl⟩
  rw [hX1] at hr1 hlt ⊢
  rw [hX2] at hr2 hld ⊢
  unfold gV at hpc hoc hic ⊢
  have HPC := Lib.hid hpc
  have HOI := Lib.hid (And.intro hoc hic)
  have HR := Lib.hid (And.intro hr1 hr2)
  have hw0 : wrap64 0 = 0 := by unfold wrap64; omega
  have hw1 : ¬ (0 : Int) < 0 := by decide
  have hni : n - 1 = i + (n - (i + 1)) := by omega
  rw [hni]
  clear hv hs hn hpc hoc hic he hm ha hin hi hiv hiq hrd hr1 hr2 htk hdr hX1 hX2 hni hlt hld
  go_enter Try.func24, Try.ntmps24
  go_wp2_with fail
  have hb2 : Below w.heap.size w ((w.alloc (.cells #[.slice (some ⟨g, 0, none⟩) n c, .slice AE m ce, .int .i64 0, .int .i64 gw] 28)).alloc (.cells #[.slice none 0 0, .slice none 0 0, .int .i64 0, .int .i64 0] 28)) := ((Below.refl _ _).alloc (Nat.le_refl _) _).alloc (by simp) _
  refine (HPC.out _ hb2).mono ?_
  rintro e w3 ⟨rfl, hb3⟩
  have hat1 : At w3 w.heap.size [.slice (some ⟨g, 0, none⟩) n c, .slice AE m ce, .int .i64 0, .int .i64 gw] 28 := ((At.made (w := w) (a := #[.slice (some ⟨g, 0, none⟩) n c, .slice AE m ce, .int .i64 0, .int .i64 gw]) rfl rfl).al).below hb3 (by simp; omega)
  have hat2 : At w3 (w.heap.size + 1) [.slice none 0 0, .slice none 0 0, .int .i64 0, .int .i64 0] 28 := (At.made (by simp) rfl).below hb3 (by simp)
  have hb := hb2.trans (hb3.mono (by simp; omega))
  have q0 := hat1.cell 0 rfl
  have q1 := hat1.cell 1 rfl
  have q2 := hat1.cell 2 rfl
  have q3 := hat1.cell 3 rfl
  have HOC := Lib.hid (fun (W : World) (hW : Below w3.heap.size w3 W) => HOI.out.1 W (hb.trans (hW.mono hb.size)))
  have HIC := Lib.hid (fun (W : World) (hW : Below w3.heap.size w3 W) => HOI.out.2 W (hb.trans (hW.mono hb.size)))
  have HA := Lib.hid (And.intro hat1 (And.intro hat2 hb))
  clear hat1 hat2 hb2 hb3 hb HPC HOI
  go_upto_region 2 with (fail)
  refine start_ (n := 14) (S := fun w' => w'.cell? ⟨w.heap.size, 0, none⟩ = some (.slice (some ⟨g, 0, none⟩) n c) ∧ w'.cell? ⟨w.heap.size, 1, none⟩ = some (.slice AE m ce) ∧ w'.cell? ⟨w.heap.size, 2, none⟩ = some (.int .i64 0) ∧ w'.cell? ⟨w.heap.size, 3, none⟩ = some (.int .i64 gw)) (ds := []) (bA 14 0) (by kernel_rfl) rfl rfl ⟨q0, q1, q2, q3⟩ (fun hHeld => ?_)
  refine with_tabW tb24_2.tab2 tb24_2.bits2 (fun HT_ HW_ => ?_)
  refine pw_ 0 11 (bA 14 1) HT_.out ?_
  refine pw_ 1 12 (bA 14 3) HT_.out ?_
  refine pw_ 2 13 (bA 14 7) HT_.out ?_
  refine pw_ 4 15 (bA 14 23) HT_.out ?_
  refine pw_ 8 19 (bA 14 279) HT_.out ?_
  refine tw_ 3 14 (bA 14 287) HT_.out HW_.out hHeld (hv := by rintro w' ⟨s0, s1, s2, s3⟩; go_simp; with_reducible rfl) (h := ?_)
  refine tw_ 7 18 (bA 14 415) HT_.out HW_.out hHeld (hv := by rintro w' ⟨s0, s1, s2, s3⟩; go_simp; with_reducible rfl) (h := ?_)
  refine one_ (i := 5) (N := some 16) (bA 14 447) rfl rfl (one_of HT_.out (by kernel_rfl)) (by decide) (fun K hK => ?_)
  refine gw_ Try.func49 #[.agg #[.slice (some ⟨g, 0, none⟩) n c, .slice AE m ce, .int .i64 0, .int .i64 gw], .int .i64 v] ?_
  with_reducible refine ((HOC.out w3.drew (Below.refl _ _).drew)).mono ?_
  rintro eo wa ⟨Ao, co, rfl, hba⟩
  refine ⟨_, rfl, ?_⟩
  refine hK.out _ _ ⟨(keep_at hba (show (w3.drew).cell? _ = _ from q0)), (keep_at hba (show (w3.drew).cell? _ = _ from q1)), (keep_at hba (show (w3.drew).cell? _ = _ from q2)), (keep_at hba (show (w3.drew).cell? _ = _ from q3))⟩ (fun hHeld => ?_)
  clear hK K
  refine norm_ (a' := ?_) ?_ ?_
  rotate_left
  · show Act.put _ (some 16) _ = _
    simp only [Act.put, pA, pB, pC, pD, pE]; rfl
  refine pw_ 6 17 (bA 14 511) HT_.out ?_
  refine one_ (i := 9) (N := some 20) (bA 14 1023) rfl rfl (one_of HT_.out (by kernel_rfl)) (by decide) (fun K hK => ?_)
  refine gw_ Try.func50 #[.agg #[.slice (some ⟨g, 0, none⟩) n c, .slice AE m ce, .int .i64 0, .int .i64 gw], .int .i64 v] ?_
  with_reducible refine ((HIC.out wa (Below.drewL hba))).mono ?_
  rintro ei wb ⟨Ai, ci, rfl, hbb⟩
  refine ⟨_, rfl, ?_⟩
  refine hK.out _ _ ⟨(keep_at hbb (keep_at hba (show (w3.drew).cell? _ = _ from q0))), (keep_at hbb (keep_at hba (show (w3.drew).cell? _ = _ from q1))), (keep_at hbb (keep_at hba (show (w3.drew).cell? _ = _ from q2))), (keep_at hbb (keep_at hba (show (w3.drew).cell? _ = _ from q3)))⟩ (fun hHeld => ?_)
  clear hK K
  refine norm_ (a' := ?_) ?_ ?_
  rotate_left
  · show Act.put _ (some 20) _ = _
    simp only [Act.put, pA, pB, pC, pD, pE]; rfl
  refine pw_ 10 21 (bA 14 2047) HT_.out ?_
  refine pw_ 11 22 (bA 14 4095) HT_.out ?_
  refine pw_ 12 23 (bA 14 8191) HT_.out ?_
  refine pw_ 13 24 (bA 14 16383) HT_.out ?_
  refine done_ (done_of HT_.out (by kernel_rfl)) ?_
  clear hHeld HT_ HW_
  obtain ⟨hat1, hat2, hb⟩ := HA.out
  have hb5 : Below w3.heap.size w3 wb := ((Below.refl _ w3).drew.trans hba).trans (hbb.mono hba.size)
  have hbw := hb.trans (hb5.mono hb.size)
  have HR4 := Lib.hid (And.intro (HR.out.1.below hbw) (HR.out.2.below hbw))
  have HB := Lib.hid (And.intro (hat1.below hb5 hat1.lt) (And.intro (hat2.below hb5 hat2.lt) hbw))
  clear q0 q1 q2 q3 hat1 hat2 hb hb5 hba hbb hbw HA HOC HIC HR
  have hat1 := HB.out.1
  have q0 := (hat1.al (o := .cells #[] 3)).cell 0 rfl
  have j0 : (0 : Int) ≤ (i : Int) := by omega
  have j1 : (i : Int) < (n : Int) := by omega
  have j2 : (n : Int) ≤ 1000 := by omega
  have j3 : (n : Int) ≤ (c : Int) := by omega
  clear hat1
  go_wp2_with ((at_builtin; first | (refine wpList_append_any rfl (.tmp 26) (.tmp 30) 25 rfl wb.heap.size 3 i1 (.int .i64 0) 1 8 Try.underlying25 hi1 hz1 hs1 hy1 rfl (by omega) _ 0 [] rfl (own_made rfl (Nat.le_refl _)) _ rfl i X1 (HR4.out.1.below ((Below.refl _ _).alloc (Nat.le_refl _) (.cells #[] 3))) (by unfold maxLen; omega) (by omega) (by simp) ?_; intro v3 w4 ho hg hn; rw [Nat.zero_add, List.nil_append] at ho; have hb4 : Below wb.heap.size wb w4 := ((Below.refl wb.heap.size wb).alloc (Nat.le_refl _) (.cells #[] 3)).grown hg (by simp) (fun k hk => by cases hk; exact Nat.le_refl _); have q0 := (HB.out.1.below hb4 HB.out.1.lt).cell 0 rfl; have HR5 := Lib.hid (HR4.out.2.below hb4); have HO := Lib.hid (And.intro ho hb4); clear ho hg hn hb4) | (refine wpList_append_any rfl (.tmp 32) (.tmp 37) 25 rfl wb.heap.size 3 i1 (.int .i64 0) 1 8 Try.underlying25 hi1 hz1 hs1 hy1 rfl (by omega) _ i X1 rfl HO.out.1 _ rfl (n - (i + 1)) X2 HR5.out (by unfold maxLen; omega) (by omega) HO.out.2.size ?_; intro v5 w5 ho hg hn; have hb5 := HO.out.2.grown hg HO.out.2.size (fun k hk => (HO.out.1.lt k hk).1); obtain ⟨A6, c6, rfl⟩ := Lw.own_slice ho; have h1 := HB.out.1.below hb5 HB.out.1.lt; have h2 := HB.out.2.1.below hb5 HB.out.2.1.lt; clear q0; have p1 := h1.cell 0 rfl; have fx1 := h1.free 0; have h1s : At (w5.setCell ⟨w.heap.size, 0, none⟩ (.slice A6 (i + (n - (i + 1))) c6)) w.heap.size [.slice A6 (i + (n - (i + 1))) c6, .slice AE m ce, .int .i64 0, .int .i64 gw] 28 := h1.put rfl; have h2s : At (w5.setCell ⟨w.heap.size, 0, none⟩ (.slice A6 (i + (n - (i + 1))) c6)) (w.heap.size + 1) [.slice none 0 0, .slice none 0 0, .int .i64 0, .int .i64 0] 28 := h2.off (by omega); have q0 := h1s.cell 0 rfl; have q1 := h1s.cell 1 rfl; have q2 := h1s.cell 2 rfl; have q3 := h1s.cell 3 rfl; have f0 := h2s.free 0; have f1 := h2s.free 1; have f2 := h2s.free 2; have f3 := h2s.free 3; have r0 := h2s.cell 0 rfl; have r1 := h2s.cell 1 rfl; have r2 := h2s.cell 2 rfl; have r3 := h2s.cell 3 rfl; have h3s : At (((((w5.setCell ⟨w.heap.size, 0, none⟩ (.slice A6 (i + (n - (i + 1))) c6)).setCell ⟨w.heap.size + 1, 0, none⟩ (.slice A6 (i + (n - (i + 1))) c6)).setCell ⟨w.heap.size + 1, 1, none⟩ (.slice AE m ce)).setCell ⟨w.heap.size + 1, 2, none⟩ (.int .i64 0)).setCell ⟨w.heap.size + 1, 3, none⟩ (.int .i64 gw)) (w.heap.size + 1) [.slice A6 (i + (n - (i + 1))) c6, .slice AE m ce, .int .i64 0, .int .i64 gw] 28 := (((h2s.put rfl).put rfl).put rfl).put rfl; have t0 := h3s.cell 0 rfl; have t1 := h3s.cell 1 rfl; have t2 := h3s.cell 2 rfl; have t3 := h3s.cell 3 rfl; have HO2 := Lib.hid (And.intro ho (And.intro hb5 (And.intro h1 h2))); clear ho hg hn hb5 h1 h2 h1s h2s h3s)))
  refine bodyPost_ret (v := .tuple #[.agg #[.slice A6 (i + (n - (i + 1))) c6, .slice AE m ce, .int .i64 0, .int .i64 gw], .bool true]) ?_ rfl ⟨A6, c6, rfl, ?_, ?_⟩
  · simp only [results]; go_simp
  · obtain ⟨ho, hb5, h1, h2⟩ := HO2.out
    have ho := own_mono (B' := w.heap.size) ho HB.out.2.2.size
    have g1 := fun (k : Nat) (u : Value) (hk : ∃ cs, At w5 k cs 28) => fun {W : World} {xs : List Value} (hW : W.ownsRow w.heap.size 3 1 (.slice A6 (i + (n - (i + 1))) c6) (i + (n - (i + 1))) xs) (i : Nat) => ownsRow_setCell_other hW (a := ⟨k, i, none⟩) (fun e => by
      obtain ⟨cs, hk⟩ := hk
      exact own_off ho hk (by decide) e.symm) u
    exact g1 _ _ ⟨_, h2⟩ (g1 _ _ ⟨_, h2⟩ (g1 _ _ ⟨_, h2⟩ (g1 _ _ ⟨_, h2⟩ (g1 _ _ ⟨_, h1⟩ ho 0) 0) 1) 2) 3
  · obtain ⟨ho, hb5, h1, h2⟩ := HO2.out
    exact (((((HB.out.2.2.trans (hb5.mono HB.out.2.2.size)).setCell (by simp) _).setCell (by simp) _).setCell (by simp) _).setCell (by simp) _).setCell (by simp) _
end Go.Proofs.Ythomnpgpbhpojaa.Cd
