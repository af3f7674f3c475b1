/- The references' Error, walked. -/
import Derived.Test.YtgihncjllelonaaHl5
import Derived.Test.YtgihncjllelonaaHl27
namespace Go.Proofs.Ytgihncjllelonaa.Lw
open Go Go.RowKit Go.Proofs.Ytgihncjllelonaa.Mem Go.Proofs.Ytgihncjllelonaa.Sl Go.Proofs.Ytgihncjllelonaa.Scc Go.Proofs.Ytgihncjllelonaa.Tj Go.Proofs.YtgihncjllelonaaW.PrintWords Go.Proofs.YtgihncjllelonaaW.PrintLast
attribute [local go_sem ↓] Go.wp_at_zero Go.wp_at_succ
set_option linter.unusedSimpArgs false
set_option linter.unusedVariables false

theorem keep_at {w w' : World} {a : Addr} {v : Value} (hb : Below w.heap.size w w') (hc : w.cell? a = some v) : w'.cell? a = some v := (hb.cell (World.block_lt_of_cell? w _ hc)).trans hc

theorem rising_of {sl : List Int} (hs : sl.Pairwise (· ≤ ·)) (h : ∀ (i : Nat) (x y : Int), sl[i]? = some x → sl[i + 1]? = some y → y ≠ x) : sl.Nodup := by
  rw [List.nodup_iff_pairwise_ne, List.pairwise_iff_getElem]
  intro i j hi hj hij he
  have h1 := h i _ _ (List.getElem?_eq_getElem hi) (List.getElem?_eq_getElem (by omega))
  have h2 := List.pairwise_iff_getElem.1 hs i (i + 1) hi (by omega) (by omega)
  rcases Nat.eq_or_lt_of_le (show i + 1 ≤ j by omega) with h3 | h3
  · subst h3; exact h1 he.symm
  · have := List.pairwise_iff_getElem.1 hs (i + 1) j (by omega) hj h3
    omega
theorem twice_of {sl : List Int} {i : Nat} {x : Int} (h1 : sl[i]? = some x) (h2 : sl[i + 1]? = some x) : ¬ sl.Nodup := by
  intro h
  rw [List.nodup_iff_pairwise_ne, List.pairwise_iff_getElem] at h
  obtain ⟨a, b⟩ := List.getElem?_eq_some_iff.1 h1
  obtain ⟨c, d⟩ := List.getElem?_eq_some_iff.1 h2
  exact h i (i + 1) a c (by omega) (b.trans d.symm)

theorem plI_neg {sl : List Int} {v : Int} : plI sl v < 0 ↔ sl.contains v = false := by
  unfold plI
  split
  · rename_i h; rw [h]; simp
  · rename_i h; simp at h; simp [h]

theorem gen_loopw {P : Program} {c : Code} {Q : Exit → Act → World → Prop} {a : Act} {w : World} (I : World → Prop) (h : I w) (k : ∀ W, I W → Code.wp P c Q a W) : Code.wp P c Q a w := k w h

def tb27_5.T5 : Bool × List (List Nat × List Nat) := (true, [([], []), ([], []), ([0, 1], [0, 1]), ([2], [2]), ([], []), ([], []), ([5], [5]), ([4, 6], [4, 6]), ([7], [7]), ([3, 8], [3, 8])])
def tb27_5.B5 : List Nat := [0, 0, 3, 7, 0, 0, 32, 112, 240, 511]
theorem tb27_5.tab5 : rtab .any (opsOf Try.f27 5) = tb27_5.T5 := by kernel_rfl
theorem tb27_5.bits5 : waitsOk tb27_5.T5.2 tb27_5.B5 = true := by kernel_rfl
def tb27_11.T11 : Bool × List (List Nat × List Nat) := (true, [([], []), ([], []), ([], []), ([1, 2], [1, 2]), ([3], [3]), ([4], [4]), ([0, 5], [0, 5]), ([6], [6]), ([7, 6], [7]), ([8], [8]), ([8], [8]), ([8], [8]), ([10, 11, 8], [8, 10, 11]), ([12, 8], [8, 12]), ([13, 8], [8, 13]), ([9, 14, 8, 8], [8, 9, 14]), ([15, 8], [8, 15]), ([8, 16], [8, 16])])
def tb27_11.B11 : List Nat := [0, 0, 0, 6, 14, 30, 63, 127, 255, 511, 511, 511, 3583, 7679, 15871, 32767, 65535, 131071]
theorem tb27_11.tab11 : rtab .any (opsOf Try.f27 11) = tb27_11.T11 := by kernel_rfl
theorem tb27_11.bits11 : waitsOk tb27_11.T11.2 tb27_11.B11 = true := by kernel_rfl
theorem Below.drewL {w w' : World} (h : Below w.drew.heap.size w.drew w') : Below w.heap.size w w' := ⟨h.os, h.tape, h.output, h.size, h.block⟩

set_option maxHeartbeats 8000000 in
set_option maxRecDepth 100000 in
theorem error_calls (w : World) (A1 A2 : Option Addr) (c1 c2 : Nat) (L : List Int) (R : List (Int × Int)) (hv : RdI w A1 L) (ha : RdA w A2 R) (hl : L.length ≤ 100000) (hr : R.length ≤ 100000) :
    Calls Try.prog 27 #[.slice A1 L.length c1, .slice A2 R.length c2] w fun e w' => e = .returned (.int .i64 ((codeV (sorted L) R : Nat) : Int)) ∧ Below w.heap.size w w' := by
  have HS := Lib.hid (sorted_calls w A1 c1 L hv (by omega))
  have HA := Lib.hid ha
  obtain ⟨code, hcode⟩ : ∃ code, codeV (sorted L) R = code := ⟨_, rfl⟩
  rw [hcode]
  have hrs := sorted_rising L
  have hsl := sorted_length L
  obtain ⟨sl, hsle⟩ : ∃ sl, sorted L = sl := ⟨_, rfl⟩
  rw [hsle] at hrs HS hsl hcode
  have HCD := Lib.hid hcode
  clear hv ha hcode hsle
  go_enter Try.func27, Try.ntmps27
  go_wp2_with fail
  refine HS.out.mono ?_
  clear HS
  rintro e w1 ⟨v5, rfl, hO⟩
  obtain ⟨n, hn⟩ : ∃ n, L.length = n := ⟨_, rfl⟩
  rw [hn] at hO hsl hl
  obtain ⟨A5, cg, rfl⟩ := own_slice hO.r
  have HO := Lib.hid hO
  have HR := Lib.hid hrs
  have HN := Lib.hid hsl
  clear hO hrs hsl hn
  go_wp2_with fail
  go_loopg [6] n (fun kq v6 w' => ∃ i : Nat, v6 = .int .i64 ((i + 1 : Nat) : Int) ∧ Hid (i + kq = n ∧ (∃ q, w' = w1.drewN q) ∧ ∀ (j : Nat) (x y : Int), j < i → sl[j]? = some x → sl[j + 1]? = some y → y ≠ x))
  case atStart => exact ⟨0, rfl, Lib.hid ⟨by omega, ⟨0, rfl⟩, fun j x y h => by omega⟩⟩
  case round =>
    obtain ⟨i, rfl, hI⟩ := hrel
    obtain ⟨hik, ⟨q, rfl⟩, hne⟩ := hI.out
    clear hI
    by_cases hi : i + 1 < n
    · obtain ⟨k1, rfl⟩ : ∃ k1, gk = k1 + 1 := ⟨gk - 1, by omega⟩
      obtain ⟨x, hx⟩ : ∃ x, sl[i]? = some x := ⟨_, List.getElem?_eq_getElem (by have := HN.out; omega)⟩
      obtain ⟨y, hy⟩ : ∃ y, sl[i + 1]? = some y := ⟨_, List.getElem?_eq_getElem (by have := HN.out; omega)⟩
      obtain ⟨g, cap, hge, _, _⟩ := HO.out.r.form (by omega)
      cases hge
      have cx : (w1.drewN q).cell? ⟨g, i, none⟩ = some (.int .i64 x) := (HO.out.r.cellAt i (by omega)).trans (Mem.ints_at sl hx)
      have cy : (w1.drewN q).cell? ⟨g, i + 1, none⟩ = some (.int .i64 y) := (HO.out.r.cellAt (i + 1) (by omega)).trans (Mem.ints_at sl hy)
      have j0 : (0 : Int) ≤ (i : Int) := by omega
      have j1 : (i : Int) + 1 < (n : Int) := by omega
      have j5 : (0 : Int) ≤ (i : Int) + 1 := by omega
      have j3 : (i : Int) < (n : Int) := by omega
      have j2 : (n : Int) ≤ 100000 := by omega
      have e4 : ∀ z : Nat, z = i → wrap64 (z : Int) = (z : Int) := fun z hz => by subst hz; unfold wrap64; omega
      have HIK := Lib.hid hik
      by_cases hxy : y = x
      · subst hxy
        have hnd := twice_of hx hy
        have HC := Lib.hid (show code = 2 by rw [← HCD.out]; unfold codeV; rw [if_neg hnd])
        clear hnd hx hy hne hik hi
        go_upto_region 5 with (fail)
        refine start_ (n := 10) (S := fun w' => w'.cell? ⟨g, i + 1, none⟩ = some (.int .i64 y) ∧ w'.cell? ⟨g, i, none⟩ = some (.int .i64 y)) (ds := []) (bA 10 0) (by kernel_rfl) rfl rfl ⟨cy, cx⟩ (fun hHeld => ?_)
        refine with_tabW tb27_5.tab5 tb27_5.bits5 (fun HT_ HW_ => ?_)
        refine pw_ 0 17 (bA 10 1) HT_.out ?_
        refine pw_ 1 18 (bA 10 3) HT_.out ?_
        refine pw_ 2 19 (bA 10 7) HT_.out ?_
        refine pw_ 4 21 (bA 10 23) HT_.out ?_
        refine pw_ 5 22 (bA 10 55) HT_.out ?_
        refine pw_ 6 23 (bA 10 119) HT_.out ?_
        refine pw_ 7 24 (bA 10 247) HT_.out ?_
        refine tw_ 3 20 (bA 10 255) HT_.out HW_.out hHeld (hv := by rintro w' ⟨s0, s1⟩; go_simp; with_reducible rfl) (h := ?_)
        refine tw_ 8 25 (bA 10 511) HT_.out HW_.out hHeld (hv := by rintro w' ⟨s0, s1⟩; go_simp; with_reducible rfl) (h := ?_)
        refine pw_ 9 26 (bA 10 1023) HT_.out ?_
        refine done_ (done_of HT_.out (by kernel_rfl)) ?_
        clear hHeld HT_ HW_
        go_wp2
        go_ret
        have hb := HO.out.b
        exact ⟨by rw [HC.out]; rfl, ⟨hb.os, hb.tape, hb.output, hb.size, hb.block⟩⟩
      · have e1 : (y == x) = false := beq_eq_false_iff_ne.2 hxy
        have HNE := Lib.hid (show ∀ (j : Nat) (p q : Int), j < i + 1 → sl[j]? = some p → sl[j + 1]? = some q → q ≠ p from fun j p q hj hp hq => by
          rcases Nat.lt_or_ge j i with h | h
          · exact hne j p q h hp hq
          · obtain rfl : j = i := by omega
            rw [hx] at hp
            rw [hy] at hq
            cases hp
            cases hq
            exact hxy)
        clear hx hy hne hik hi hxy
        go_upto_region 5 with (fail)
        refine start_ (n := 10) (S := fun w' => w'.cell? ⟨g, i + 1, none⟩ = some (.int .i64 y) ∧ w'.cell? ⟨g, i, none⟩ = some (.int .i64 x)) (ds := []) (bA 10 0) (by kernel_rfl) rfl rfl ⟨cy, cx⟩ (fun hHeld => ?_)
        refine with_tabW tb27_5.tab5 tb27_5.bits5 (fun HT_ HW_ => ?_)
        refine pw_ 0 17 (bA 10 1) HT_.out ?_
        refine pw_ 1 18 (bA 10 3) HT_.out ?_
        refine pw_ 2 19 (bA 10 7) HT_.out ?_
        refine pw_ 4 21 (bA 10 23) HT_.out ?_
        refine pw_ 5 22 (bA 10 55) HT_.out ?_
        refine pw_ 6 23 (bA 10 119) HT_.out ?_
        refine pw_ 7 24 (bA 10 247) HT_.out ?_
        refine tw_ 3 20 (bA 10 255) HT_.out HW_.out hHeld (hv := by rintro w' ⟨s0, s1⟩; go_simp; with_reducible rfl) (h := ?_)
        refine tw_ 8 25 (bA 10 511) HT_.out HW_.out hHeld (hv := by rintro w' ⟨s0, s1⟩; go_simp; with_reducible rfl) (h := ?_)
        refine pw_ 9 26 (bA 10 1023) HT_.out ?_
        refine done_ (done_of HT_.out (by kernel_rfl)) ?_
        clear hHeld HT_ HW_; clear cx cy
        go_wp2
        go_roundg k1
        case measure => have := HIK.out; omega
        case rel => exact ⟨i + 1, by go_num, Lib.hid ⟨by have := HIK.out; omega, ⟨q + 1, rfl⟩, HNE.out⟩⟩
    · have hnd : sl.Nodup := rising_of HR.out fun j x y hx hy => hne j x y (by have := (List.getElem?_eq_some_iff.1 hy).1; have := HN.out; omega) hx hy
      have HND := Lib.hid hnd
      have HO2 := Lib.hid (show One w 3 1 (.slice A5 n cg) n (ints sl) (w1.drewN q) from ⟨HO.out.r, ⟨HO.out.b.os, HO.out.b.tape, HO.out.b.output, HO.out.b.size, HO.out.b.block⟩⟩)
      obtain ⟨w2, hw2⟩ : ∃ w2, w1.drewN q = w2 := ⟨_, rfl⟩
      rw [hw2] at HO2 ⊢
      have j1 : decide ((i : Int) + 1 < (n : Int)) = false := by rw [decide_eq_false_iff_not]; omega
      have hb02 : Below w1.heap.size w1 w2 := by rw [← hw2]; exact ⟨rfl, rfl, rfl, Nat.le_refl _, fun _ _ => rfl⟩
      have HA2 := Lib.hid ((HA.out.below HO.out.b).below hb02)
      clear hnd hne hik HO HA hw2 hb02 hi
      go_wp2_with fail
      clear j1
      refine gen_loopw (fun W => At W w2.heap.size [.slice A5 n cg, .slice none 0 0, .int .i64 0, .int .i64 0] 35 ∧ RdI W A5 sl ∧ RdA W A2 R ∧ Below w.heap.size w W) ?_ ?_
      · have hal := (Below.refl w2.heap.size w2).alloc (Nat.le_refl _) (.cells #[.slice A5 n cg, .slice none 0 0, .int .i64 0, .int .i64 0] 35)
        exact ⟨At.made rfl rfl, (RdI.of_own HO2.out.r).1.below hal, HA2.out.below hal, HO2.out.b.trans (hal.mono HO2.out.b.size)⟩
      clear HO2 HA2
      obtain ⟨gb, hgb⟩ : ∃ gb, w2.heap.size = gb := ⟨_, rfl⟩
      rw [hgb]
      clear hgb
      rintro w3 ⟨hat, hri, hra, hb3⟩
      have HAT := Lib.hid hat
      have HRI := Lib.hid hri
      have HRA := Lib.hid hra
      have HB3 := Lib.hid hb3
      clear hat hri hra hb3
      go_loopg [8] R.length (fun kq v8 w' => ∃ j : Nat, v8 = .int .i64 (j : Int) ∧ Hid (j + kq = R.length ∧ Below w3.heap.size w3 w' ∧ ∀ p ∈ R.take j, sl.contains p.1 = true ∧ sl.contains p.2 = true))
      case atStart => exact ⟨0, rfl, Lib.hid ⟨by omega, Below.refl _ _, fun p hp => by simp at hp⟩⟩
      case round =>
        obtain ⟨j, rfl, hI⟩ := hrel
        obtain ⟨hjk, hb, hgood⟩ := hI.out
        clear hI
        by_cases hj : j < R.length
        · obtain ⟨k1, rfl⟩ : ∃ k1, gk = k1 + 1 := ⟨gk - 1, by omega⟩
          obtain ⟨⟨u, v⟩, hxx⟩ : ∃ x, R[j] = x := ⟨_, rfl⟩
          have hx : R[j]? = some (u, v) := by rw [List.getElem?_eq_getElem hj, hxx]
          obtain ⟨b2, rfl, qu, qv⟩ := (HRA.out.below hb) j u v hx
          have q0 := keep_at hb (HAT.out.cell 0 rfl)
          have q1 := keep_at hb (HAT.out.cell 1 rfl)
          have q2 := keep_at hb (HAT.out.cell 2 rfl)
          have q3 := keep_at hb (HAT.out.cell 3 rfl)
          have hC : ∀ (x : Int) (W : World), Below wr.heap.size wr W → Calls Try.prog 58 #[.agg #[.slice A5 n cg, .slice none 0 0, .int .i64 0, .int .i64 0], .int .i64 x] W fun e w' => e = .returned (.int .i64 (plI sl x)) ∧ Below W.heap.size W w' := fun x W hW => by
            have := place_calls (gw := 0) W A5 none cg 0 0 sl x ((HRI.out.below hb).below hW) (lt_of_nodup HR.out HND.out) (by rw [HN.out]; omega)
            rw [HN.out] at this
            exact this
          have HCU := Lib.hid (hC u)
          have HCV := Lib.hid (hC v)
          have j0 : (0 : Int) ≤ (j : Int) := by omega
          have j1 : (j : Int) < (R.length : Int) := by omega
          have j2 : (R.length : Int) ≤ 100000 := by omega
          have HJK := Lib.hid hjk
          have HBW := Lib.hid hb
          have hm : (u, v) ∈ R := List.mem_of_getElem? hx
          by_cases hu : plI sl u < 0
          · have e1 : decide (plI sl u < 0) = true := by rw [decide_eq_true_eq]; exact hu
            have HC := Lib.hid (show code = 5 by
              rw [← HCD.out]
              unfold codeV
              rw [if_pos HND.out, if_neg]
              intro hg
              have := (good_iff.1 hg _ hm).1
              rw [plI_neg.1 hu] at this
              cases this)
            clear hC hjk hb hgood hx hxx hm hu hj
            go_upto_region 11 with (fail)
            refine start_ (n := 18) (S := fun w' => w'.cell? ⟨gb, 0, none⟩ = some (.slice A5 n cg) ∧ w'.cell? ⟨gb, 1, none⟩ = some (.slice none 0 0) ∧ w'.cell? ⟨gb, 2, none⟩ = some (.int .i64 0) ∧ w'.cell? ⟨gb, 3, none⟩ = some (.int .i64 0) ∧ w'.cell? ⟨b2, j * 2, none⟩ = some (.int .i64 u) ∧ w'.cell? ⟨b2, j * 2 + 1, none⟩ = some (.int .i64 v)) (ds := []) (bA 18 0) (by kernel_rfl) rfl rfl ⟨q0, q1, q2, q3, qu, qv⟩ (fun hHeld => ?_)
            refine with_tabW tb27_11.tab11 tb27_11.bits11 (fun HT_ HW_ => ?_)
            refine pw_ 1 36 (bA 18 2) HT_.out ?_
            refine pw_ 2 37 (bA 18 6) HT_.out ?_
            refine pw_ 3 38 (bA 18 14) HT_.out ?_
            refine pw_ 4 39 (bA 18 30) HT_.out ?_
            refine tw_ 0 35 (bA 18 31) HT_.out HW_.out hHeld (hv := by rintro w' ⟨s0, s1, s2, s3, s4, s5⟩; go_simp; with_reducible rfl) (h := ?_)
            refine tw_ 5 40 (bA 18 63) HT_.out HW_.out hHeld (hv := by rintro w' ⟨s0, s1, s2, s3, s4, s5⟩; go_simp; with_reducible rfl) (h := ?_)
            refine one_ (i := 6) (N := some 41) (bA 18 127) rfl rfl (one_of HT_.out (by kernel_rfl)) (by decide) (fun K hK => ?_)
            refine gw_ Try.func58 #[.agg #[.slice A5 n cg, .slice none 0 0, .int .i64 0, .int .i64 0], .int .i64 u] ?_
            with_reducible refine ((HCU.out wr.drew (Below.refl _ _).drew)).mono ?_
            rintro e wa ⟨rfl, hb_wa⟩
            refine ⟨_, rfl, ?_⟩
            refine hK.out _ _ ⟨(keep_at hb_wa (show (wr.drew).cell? _ = _ from q0)), (keep_at hb_wa (show (wr.drew).cell? _ = _ from q1)), (keep_at hb_wa (show (wr.drew).cell? _ = _ from q2)), (keep_at hb_wa (show (wr.drew).cell? _ = _ from q3)), (keep_at hb_wa (show (wr.drew).cell? _ = _ from qu)), (keep_at hb_wa (show (wr.drew).cell? _ = _ from qv))⟩ (fun hHeld => ?_)
            clear hK K
            refine norm_ (a' := ?_) ?_ ?_
            rotate_left
            · show Act.put _ (some 41) _ = _
              simp only [Act.put, pA, pB, pC, pD, pE]; rfl
            refine pw_ 7 42 (bA 18 255) HT_.out ?_
            refine pw_ 8 43 (bA 18 511) HT_.out ?_
            refine pu_ 9 44 (bA 18 1023) HT_.out ?_
            refine pu_ 10 45 (bA 18 2047) HT_.out ?_
            refine pu_ 11 46 (bA 18 4095) HT_.out ?_
            refine pu_ 12 47 (bA 18 8191) HT_.out ?_
            refine pu_ 13 48 (bA 18 16383) HT_.out ?_
            refine pu_ 14 49 (bA 18 32767) HT_.out ?_
            refine pu_ 15 50 (bA 18 65535) HT_.out ?_
            refine pu_ 16 51 (bA 18 131071) HT_.out ?_
            refine pw_ 17 52 (bA 18 262143) HT_.out ?_
            refine done_ (done_of HT_.out (by kernel_rfl)) ?_
            clear hHeld HT_ HW_
            go_wp2
            go_ret
            exact ⟨by rw [HC.out]; rfl, (HB3.out.trans (HBW.out.mono HB3.out.size)).trans ((Below.drewL hb_wa).mono (Nat.le_trans HB3.out.size HBW.out.size))⟩
          · have e1 : decide (plI sl u < 0) = false := by rw [decide_eq_false_iff_not]; exact hu
            have hcu : sl.contains u = true := by
              cases h : sl.contains u with
              | true => rfl
              | false => exact absurd (plI_neg.2 h) hu
            by_cases hv : plI sl v < 0
            · have e2 : decide (plI sl v < 0) = true := by rw [decide_eq_true_eq]; exact hv
              have HC := Lib.hid (show code = 5 by
                rw [← HCD.out]
                unfold codeV
                rw [if_pos HND.out, if_neg]
                intro hg
                have := (good_iff.1 hg _ hm).2
                rw [plI_neg.1 hv] at this
                cases this)
              clear hC hjk hb hgood hx hxx hm hu hv hcu hj
              go_upto_region 11 with (fail)
              refine start_ (n := 18) (S := fun w' => w'.cell? ⟨gb, 0, none⟩ = some (.slice A5 n cg) ∧ w'.cell? ⟨gb, 1, none⟩ = some (.slice none 0 0) ∧ w'.cell? ⟨gb, 2, none⟩ = some (.int .i64 0) ∧ w'.cell? ⟨gb, 3, none⟩ = some (.int .i64 0) ∧ w'.cell? ⟨b2, j * 2, none⟩ = some (.int .i64 u) ∧ w'.cell? ⟨b2, j * 2 + 1, none⟩ = some (.int .i64 v)) (ds := []) (bA 18 0) (by kernel_rfl) rfl rfl ⟨q0, q1, q2, q3, qu, qv⟩ (fun hHeld => ?_)
              refine with_tabW tb27_11.tab11 tb27_11.bits11 (fun HT_ HW_ => ?_)
              refine pw_ 1 36 (bA 18 2) HT_.out ?_
              refine pw_ 2 37 (bA 18 6) HT_.out ?_
              refine pw_ 3 38 (bA 18 14) HT_.out ?_
              refine pw_ 4 39 (bA 18 30) HT_.out ?_
              refine tw_ 0 35 (bA 18 31) HT_.out HW_.out hHeld (hv := by rintro w' ⟨s0, s1, s2, s3, s4, s5⟩; go_simp; with_reducible rfl) (h := ?_)
              refine tw_ 5 40 (bA 18 63) HT_.out HW_.out hHeld (hv := by rintro w' ⟨s0, s1, s2, s3, s4, s5⟩; go_simp; with_reducible rfl) (h := ?_)
              refine one_ (i := 6) (N := some 41) (bA 18 127) rfl rfl (one_of HT_.out (by kernel_rfl)) (by decide) (fun K hK => ?_)
              refine gw_ Try.func58 #[.agg #[.slice A5 n cg, .slice none 0 0, .int .i64 0, .int .i64 0], .int .i64 u] ?_
              with_reducible refine ((HCU.out wr.drew (Below.refl _ _).drew)).mono ?_
              rintro e wa ⟨rfl, hb_wa⟩
              refine ⟨_, rfl, ?_⟩
              refine hK.out _ _ ⟨(keep_at hb_wa (show (wr.drew).cell? _ = _ from q0)), (keep_at hb_wa (show (wr.drew).cell? _ = _ from q1)), (keep_at hb_wa (show (wr.drew).cell? _ = _ from q2)), (keep_at hb_wa (show (wr.drew).cell? _ = _ from q3)), (keep_at hb_wa (show (wr.drew).cell? _ = _ from qu)), (keep_at hb_wa (show (wr.drew).cell? _ = _ from qv))⟩ (fun hHeld => ?_)
              clear hK K
              refine norm_ (a' := ?_) ?_ ?_
              rotate_left
              · show Act.put _ (some 41) _ = _
                simp only [Act.put, pA, pB, pC, pD, pE]; rfl
              refine pw_ 7 42 (bA 18 255) HT_.out ?_
              refine pw_ 8 43 (bA 18 511) HT_.out ?_
              refine pw_ 10 45 (bA 18 1535) HT_.out ?_
              refine pw_ 11 46 (bA 18 3583) HT_.out ?_
              refine pw_ 12 47 (bA 18 7679) HT_.out ?_
              refine pw_ 13 48 (bA 18 15871) HT_.out ?_
              refine tw_ 9 44 (bA 18 16383) HT_.out HW_.out hHeld (hv := by rintro w' ⟨s0, s1, s2, s3, s4, s5⟩; go_simp; with_reducible rfl) (h := ?_)
              refine tw_ 14 49 (bA 18 32767) HT_.out HW_.out hHeld (hv := by rintro w' ⟨s0, s1, s2, s3, s4, s5⟩; go_simp; with_reducible rfl) (h := ?_)
              refine one_ (i := 15) (N := some 50) (bA 18 65535) rfl rfl (one_of HT_.out (by kernel_rfl)) (by decide) (fun K hK => ?_)
              refine gw_ Try.func58 #[.agg #[.slice A5 n cg, .slice none 0 0, .int .i64 0, .int .i64 0], .int .i64 v] ?_
              with_reducible refine ((HCV.out wa (Below.drewL hb_wa))).mono ?_
              rintro e wb ⟨rfl, hb_wb⟩
              refine ⟨_, rfl, ?_⟩
              refine hK.out _ _ ⟨(keep_at hb_wb (keep_at hb_wa (show (wr.drew).cell? _ = _ from q0))), (keep_at hb_wb (keep_at hb_wa (show (wr.drew).cell? _ = _ from q1))), (keep_at hb_wb (keep_at hb_wa (show (wr.drew).cell? _ = _ from q2))), (keep_at hb_wb (keep_at hb_wa (show (wr.drew).cell? _ = _ from q3))), (keep_at hb_wb (keep_at hb_wa (show (wr.drew).cell? _ = _ from qu))), (keep_at hb_wb (keep_at hb_wa (show (wr.drew).cell? _ = _ from qv)))⟩ (fun hHeld => ?_)
              clear hK K
              refine norm_ (a' := ?_) ?_ ?_
              rotate_left
              · show Act.put _ (some 50) _ = _
                simp only [Act.put, pA, pB, pC, pD, pE]; rfl
              refine pw_ 16 51 (bA 18 131071) HT_.out ?_
              refine pw_ 17 52 (bA 18 262143) HT_.out ?_
              refine done_ (done_of HT_.out (by kernel_rfl)) ?_
              clear hHeld HT_ HW_
              go_wp2
              go_ret
              exact ⟨by rw [HC.out]; rfl, (HB3.out.trans (HBW.out.mono HB3.out.size)).trans (((Below.drewL hb_wa).trans (hb_wb.mono (Below.drewL hb_wa).size)).mono (Nat.le_trans HB3.out.size HBW.out.size))⟩
            · have e2 : decide (plI sl v < 0) = false := by rw [decide_eq_false_iff_not]; exact hv
              have HG := Lib.hid (show ∀ p ∈ R.take (j + 1), sl.contains p.1 = true ∧ sl.contains p.2 = true from fun p hp => by
                rw [List.take_add_one, hx] at hp
                rcases List.mem_append.1 hp with h | h
                · exact hgood p h
                · have : p = (u, v) := by simpa using h
                  subst this
                  refine ⟨hcu, ?_⟩
                  cases h : sl.contains v with
                  | true => rfl
                  | false => exact absurd (plI_neg.2 h) hv)
              clear hC hjk hb hgood hx hxx hm hu hv hcu hj
              go_upto_region 11 with (fail)
              refine start_ (n := 18) (S := fun w' => w'.cell? ⟨gb, 0, none⟩ = some (.slice A5 n cg) ∧ w'.cell? ⟨gb, 1, none⟩ = some (.slice none 0 0) ∧ w'.cell? ⟨gb, 2, none⟩ = some (.int .i64 0) ∧ w'.cell? ⟨gb, 3, none⟩ = some (.int .i64 0) ∧ w'.cell? ⟨b2, j * 2, none⟩ = some (.int .i64 u) ∧ w'.cell? ⟨b2, j * 2 + 1, none⟩ = some (.int .i64 v)) (ds := []) (bA 18 0) (by kernel_rfl) rfl rfl ⟨q0, q1, q2, q3, qu, qv⟩ (fun hHeld => ?_)
              refine with_tabW tb27_11.tab11 tb27_11.bits11 (fun HT_ HW_ => ?_)
              refine pw_ 1 36 (bA 18 2) HT_.out ?_
              refine pw_ 2 37 (bA 18 6) HT_.out ?_
              refine pw_ 3 38 (bA 18 14) HT_.out ?_
              refine pw_ 4 39 (bA 18 30) HT_.out ?_
              refine tw_ 0 35 (bA 18 31) HT_.out HW_.out hHeld (hv := by rintro w' ⟨s0, s1, s2, s3, s4, s5⟩; go_simp; with_reducible rfl) (h := ?_)
              refine tw_ 5 40 (bA 18 63) HT_.out HW_.out hHeld (hv := by rintro w' ⟨s0, s1, s2, s3, s4, s5⟩; go_simp; with_reducible rfl) (h := ?_)
              refine one_ (i := 6) (N := some 41) (bA 18 127) rfl rfl (one_of HT_.out (by kernel_rfl)) (by decide) (fun K hK => ?_)
              refine gw_ Try.func58 #[.agg #[.slice A5 n cg, .slice none 0 0, .int .i64 0, .int .i64 0], .int .i64 u] ?_
              with_reducible refine ((HCU.out wr.drew (Below.refl _ _).drew)).mono ?_
              rintro e wa ⟨rfl, hb_wa⟩
              refine ⟨_, rfl, ?_⟩
              refine hK.out _ _ ⟨(keep_at hb_wa (show (wr.drew).cell? _ = _ from q0)), (keep_at hb_wa (show (wr.drew).cell? _ = _ from q1)), (keep_at hb_wa (show (wr.drew).cell? _ = _ from q2)), (keep_at hb_wa (show (wr.drew).cell? _ = _ from q3)), (keep_at hb_wa (show (wr.drew).cell? _ = _ from qu)), (keep_at hb_wa (show (wr.drew).cell? _ = _ from qv))⟩ (fun hHeld => ?_)
              clear hK K
              refine norm_ (a' := ?_) ?_ ?_
              rotate_left
              · show Act.put _ (some 41) _ = _
                simp only [Act.put, pA, pB, pC, pD, pE]; rfl
              refine pw_ 7 42 (bA 18 255) HT_.out ?_
              refine pw_ 8 43 (bA 18 511) HT_.out ?_
              refine pw_ 10 45 (bA 18 1535) HT_.out ?_
              refine pw_ 11 46 (bA 18 3583) HT_.out ?_
              refine pw_ 12 47 (bA 18 7679) HT_.out ?_
              refine pw_ 13 48 (bA 18 15871) HT_.out ?_
              refine tw_ 9 44 (bA 18 16383) HT_.out HW_.out hHeld (hv := by rintro w' ⟨s0, s1, s2, s3, s4, s5⟩; go_simp; with_reducible rfl) (h := ?_)
              refine tw_ 14 49 (bA 18 32767) HT_.out HW_.out hHeld (hv := by rintro w' ⟨s0, s1, s2, s3, s4, s5⟩; go_simp; with_reducible rfl) (h := ?_)
              refine one_ (i := 15) (N := some 50) (bA 18 65535) rfl rfl (one_of HT_.out (by kernel_rfl)) (by decide) (fun K hK => ?_)
              refine gw_ Try.func58 #[.agg #[.slice A5 n cg, .slice none 0 0, .int .i64 0, .int .i64 0], .int .i64 v] ?_
              with_reducible refine ((HCV.out wa (Below.drewL hb_wa))).mono ?_
              rintro e wb ⟨rfl, hb_wb⟩
              refine ⟨_, rfl, ?_⟩
              refine hK.out _ _ ⟨(keep_at hb_wb (keep_at hb_wa (show (wr.drew).cell? _ = _ from q0))), (keep_at hb_wb (keep_at hb_wa (show (wr.drew).cell? _ = _ from q1))), (keep_at hb_wb (keep_at hb_wa (show (wr.drew).cell? _ = _ from q2))), (keep_at hb_wb (keep_at hb_wa (show (wr.drew).cell? _ = _ from q3))), (keep_at hb_wb (keep_at hb_wa (show (wr.drew).cell? _ = _ from qu))), (keep_at hb_wb (keep_at hb_wa (show (wr.drew).cell? _ = _ from qv)))⟩ (fun hHeld => ?_)
              clear hK K
              refine norm_ (a' := ?_) ?_ ?_
              rotate_left
              · show Act.put _ (some 50) _ = _
                simp only [Act.put, pA, pB, pC, pD, pE]; rfl
              refine pw_ 16 51 (bA 18 131071) HT_.out ?_
              refine pw_ 17 52 (bA 18 262143) HT_.out ?_
              refine done_ (done_of HT_.out (by kernel_rfl)) ?_
              clear hHeld HT_ HW_; clear qu qv q0 q1 q2 q3
              have HBN := Lib.hid (HBW.out.trans (((Below.drewL hb_wa).trans (hb_wb.mono (Below.drewL hb_wa).size)).mono HBW.out.size))
              clear hb_wa hb_wb
              go_wp2
              go_roundg k1
              case measure => have := HJK.out; omega
              case rel => exact ⟨j + 1, by go_num, Lib.hid ⟨by have := HJK.out; omega, HBN.out, HG.out⟩⟩
        · obtain rfl : j = R.length := by omega
          rw [List.take_length] at hgood
          have HC := Lib.hid (show code = 0 by
            rw [← HCD.out]
            unfold codeV
            rw [if_pos HND.out, if_pos (good_iff.2 hgood)])
          have HBW := Lib.hid hb
          clear hb hgood hjk hj
          go_wp2
          go_ret
          exact ⟨by rw [HC.out]; rfl, HB3.out.trans (HBW.out.mono HB3.out.size)⟩

end Go.Proofs.Ytgihncjllelonaa.Lw

/- The references' Graph, walked. -/
namespace Go.Proofs.Ytgihncjllelonaa.Lw
open Go Go.RowKit Go.Proofs.Ytgihncjllelonaa.Mem Go.Proofs.Ytgihncjllelonaa.Sl Go.Proofs.Ytgihncjllelonaa.Scc Go.Proofs.Ytgihncjllelonaa.Tj Go.Proofs.YtgihncjllelonaaW.PrintWords Go.Proofs.YtgihncjllelonaaW.PrintLast
attribute [local go_sem ↓] Go.wp_at_zero Go.wp_at_succ
set_option linter.unusedSimpArgs false
set_option linter.unusedVariables false

theorem info_edge : (Try.prog.info? 55).map (fun i => (i.zero, i.size, i.bytes)) = some (some (.agg #[.int .i64 0, .int .i64 0, .int .i64 0, .int .u32 0]), 4, 32) := by kernel_rfl

def RdE (w : World) (A : Option Addr) (l : List (Int × Int)) : Prop := ∀ (j : Nat) (u v : Int), l[j]? = some (u, v) → ∃ b, A = some ⟨b, 0, none⟩ ∧ w.cell? ⟨b, j * 4 + 1, none⟩ = some (.int .i64 u) ∧ w.cell? ⟨b, j * 4 + 2, none⟩ = some (.int .i64 v)
theorem RdE.below {w w' : World} {A : Option Addr} {l : List (Int × Int)} (h : RdE w A l) (hb : Below w.heap.size w w') : RdE w' A l := fun j u v hx => by
  obtain ⟨b, h1, h2, h3⟩ := h j u v hx
  exact ⟨b, h1, keep_at hb h2, keep_at hb h3⟩

def EdC (l : List (Int × Int)) (xs : List Value) : Prop := xs.length = l.length * 4 ∧ ∀ (j : Nat) (u v : Int), l[j]? = some (u, v) → xs[j * 4 + 1]? = some (.int .i64 u) ∧ xs[j * 4 + 2]? = some (.int .i64 v)
theorem EdC.nil : EdC [] [] := ⟨rfl, fun j u v h => by simp at h⟩
theorem EdC.snoc {l : List (Int × Int)} {xs : List Value} {u v : Int} {e f : Value} (h : EdC l xs) : EdC (l ++ [(u, v)]) (xs ++ [e, .int .i64 u, .int .i64 v, f]) := by
  refine ⟨by simp [h.1]; omega, fun j a b hx => ?_⟩
  have hl := h.1
  rcases Nat.lt_or_ge j l.length with hj | hj
  · rw [List.getElem?_append_left hj] at hx
    rw [List.getElem?_append_left (by omega), List.getElem?_append_left (by omega)]
    exact h.2 j a b hx
  · have hj2 : j = l.length := by
      have := (List.getElem?_eq_some_iff.1 hx).1
      simp at this
      omega
    subst hj2
    rw [List.getElem?_append_right (Nat.le_refl _), Nat.sub_self] at hx
    cases hx
    rw [List.getElem?_append_right (by omega), List.getElem?_append_right (by omega), show l.length * 4 + 1 - xs.length = 1 by omega, show l.length * 4 + 2 - xs.length = 2 by omega]
    exact ⟨rfl, rfl⟩

structure GS (w : World) (gx gb : Nat) (A : Option Addr) (n cg : Nat) (sl : List Int) (vE : Value) (l : List (Int × Int)) (W : World) : Prop where
  x : At W gx [.slice A n cg, vE, .int .i64 0, .int .i64 0] 35
  b : At W gb [.slice none 0 0, .slice none 0 0, .int .i64 0, .int .i64 0] 35
  ne : gx ≠ gb
  hx : w.heap.size ≤ gx
  hb : w.heap.size ≤ gb
  o : ∃ xs, EdC l xs ∧ Two w 3 1 (.slice A n cg) n (ints sl) 55 4 vE l.length xs W

section
variable {w W W' : World} {gx gb n cg : Nat} {A : Option Addr} {sl : List Int} {vE : Value} {l : List (Int × Int)}
theorem GS.below (h : GS w gx gb A n cg sl vE l W) (hb : Below W.heap.size W W') : GS w gx gb A n cg sl vE l W' := by
  obtain ⟨xs, h1, h2⟩ := h.o
  exact ⟨h.x.below hb h.x.lt, h.b.below hb h.b.lt, h.ne, h.hx, h.hb, xs, h1, h2.below hb⟩
theorem own_beside {base g i s k : Nat} {e T : TypeId} {v u : Value} {xs cs : List Value} (h : W.ownsRow base e s v k xs) (hg : At W g cs T) (hne : T ≠ e) : (W.setCell ⟨g, i, none⟩ u).ownsRow base e s v k xs :=
  h.kept (row := some g) ⟨rfl, rfl, rfl, by simp, fun m _ hm => by
    have : m ≠ g := fun e => hm (by rw [e])
    exact heap_setCell_other W ⟨g, i, none⟩ m u this⟩ (.inr (own_off h hg hne).symm)
end

def tb29_5.T5 : Bool × List (List Nat × List Nat) := (true, [([], []), ([0], [0]), ([], []), ([2], [2]), ([], []), ([], []), ([4, 5], [4, 5]), ([6], [6]), ([7], [7]), ([], []), ([], []), ([9, 10], [9, 10]), ([11], [11]), ([12], [12]), ([3, 8, 13], [3, 8, 13]), ([14], [14]), ([1, 15], [1, 15]), ([0, 1, 2, 3, 4, 5, 6, 7, 8, 9, 10, 11, 12, 13, 14, 15, 16], []), ([17, 16, 16, 0, 1, 2, 3, 4, 5, 6, 7, 8, 9, 10, 11, 12, 13, 14, 15, 16], [16, 17])])
def tb29_5.B5 : List Nat := [0, 1, 0, 4, 0, 0, 48, 112, 240, 0, 0, 1536, 3584, 7680, 16380, 32764, 65535, 131071, 262143]
theorem tb29_5.tab5 : rtab .any (opsOf Try.f29 5) = tb29_5.T5 := by kernel_rfl
theorem tb29_5.bits5 : waitsOk tb29_5.T5.2 tb29_5.B5 = true := by kernel_rfl
set_option maxHeartbeats 8000000 in
set_option maxRecDepth 100000 in
theorem graph_calls (w : World) (A1 A2 : Option Addr) (c1 c2 : Nat) (L : List Int) (R : List (Int × Int)) (hv : RdI w A1 L) (ha : RdA w A2 R) (hl : L.length ≤ 100000) (hr : R.length ≤ 100000) :
    Calls Try.prog 29 #[.slice A1 L.length c1, .slice A2 R.length c2] w fun e w' => ∃ A5 cg AE ce, e = .returned (gV A5 L.length cg (.slice AE R.length ce)) ∧ RdI w' A5 (sorted L) ∧ RdE w' AE R ∧ Below w.heap.size w w' := by
  obtain ⟨i4, hi4, hz4, hs4, hy4⟩ := info_parts info_edge
  obtain ⟨n, hn⟩ : ∃ n, L.length = n := ⟨_, rfl⟩
  have hSC := fun (W : World) (hW : Below w.heap.size w W) => sorted_calls W A1 c1 L (hv.below hW) (by omega)
  have hsl := sorted_length L
  obtain ⟨sl, hsle⟩ : ∃ sl, sorted L = sl := ⟨_, rfl⟩
  rw [hsle] at hSC hsl ⊢
  rw [hn] at hSC hl hsl ⊢
  have HSC := Lib.hid hSC
  have HA := Lib.hid ha
  have HN := Lib.hid hsl
  clear hv ha hSC hsl hsle hn
  unfold gV
  go_enter Try.func29, Try.ntmps29
  go_wp2_with fail
  refine (HSC.out _ ((Below.refl _ _).alloc (Nat.le_refl _) _)).mono ?_
  clear HSC
  rintro e w1 ⟨v5, rfl, hO⟩
  obtain ⟨A5, cg, rfl⟩ := own_slice hO.r
  have hsz : (w.alloc (.cells #[.slice none 0 0, .slice none 0 0, .int .i64 0, .int .i64 0] 35)).heap.size = w.heap.size + 1 := by simp
  have hgb : At w1 w.heap.size [.slice none 0 0, .slice none 0 0, .int .i64 0, .int .i64 0] 35 := (At.made (w := w) (a := #[.slice none 0 0, .slice none 0 0, .int .i64 0, .int .i64 0]) rfl rfl).below hO.b (by rw [hsz]; omega)
  have hrow : w1.ownsRow w.heap.size 3 1 (.slice A5 n cg) n (ints sl) := own_mono hO.r (by rw [hsz]; omega)
  have hbel : Below w.heap.size w w1 := ((Below.refl _ _).alloc (Nat.le_refl _) _).trans (hO.b.mono (by rw [hsz]; omega))
  have hlt : w.heap.size < w1.heap.size := by have := hO.b.size; rw [hsz] at this; omega
  have HGB := Lib.hid hgb
  have HRW := Lib.hid hrow
  have HBL := Lib.hid hbel
  have HLT := Lib.hid hlt
  clear hO hsz hgb hrow hbel hlt
  go_wp2_with fail
  refine gen_loopw (fun W => GS w w1.heap.size w.heap.size A5 n cg sl (.slice none 0 0) [] W) ?_ ?_
  · have hal := (Below.refl w1.heap.size w1).alloc (Nat.le_refl _) (.cells #[.slice A5 n cg, .slice none 0 0, .int .i64 0, .int .i64 0] 35)
    exact ⟨At.made rfl rfl, HGB.out.al, by have := HLT.out; omega, by have := HLT.out; omega, Nat.le_refl _, [], EdC.nil, ⟨HRW.out.alloc _, World.ownsRow_nil _ _ _ _, fun k _ h => by simp [Value.ownBlock] at h, HBL.out.alloc HBL.out.size _⟩⟩
  clear HGB HRW HBL HLT
  obtain ⟨gx, hgx⟩ : ∃ gx, w1.heap.size = gx := ⟨_, rfl⟩
  obtain ⟨gb, hgb⟩ : ∃ gb, w.heap.size = gb := ⟨_, rfl⟩
  rw [hgx, hgb]
  have HGBE := Lib.hid hgb
  clear hgx hgb
  intro w3 hG
  have HG := Lib.hid hG
  clear hG
  go_loopg [6] R.length (fun kq v6 w' => ∃ j : Nat, v6 = .int .i64 (j : Int) ∧ Hid (j + kq = R.length ∧ ∃ vE, GS w gx gb A5 n cg sl vE (R.take j) w'))
  case atStart => exact ⟨0, rfl, Lib.hid ⟨by omega, _, by rw [List.take_zero]; exact HG.out⟩⟩
  case round =>
    clear HG
    obtain ⟨j, rfl, hI⟩ := hrel
    obtain ⟨hjk, vE, hG⟩ := hI.out
    clear hI
    obtain ⟨xs, hxs, hT⟩ := hG.o
    have hne := hG.ne
    by_cases hj : j < R.length
    · obtain ⟨k1, rfl⟩ : ∃ k1, gk = k1 + 1 := ⟨gk - 1, by omega⟩
      obtain ⟨⟨u, v⟩, hxx⟩ : ∃ x, R[j] = x := ⟨_, rfl⟩
      have hx : R[j]? = some (u, v) := by rw [List.getElem?_eq_getElem hj, hxx]
      have htk : R.take (j + 1) = R.take j ++ [(u, v)] := by rw [List.take_add_one, hx]; rfl
      obtain ⟨b2, rfl, qu, qv⟩ := (HA.out.below hT.b) j u v hx
      have q1 := hG.x.cell 1 rfl
      obtain ⟨l0, hl0⟩ : ∃ l0, R.take j = l0 := ⟨_, rfl⟩
      have hl0n : l0.length ≤ 100000 := by rw [← hl0, List.length_take]; omega
      rw [hl0] at hT hxs htk
      have HT := Lib.hid hT
      have HX := Lib.hid hG.x
      have HGB := Lib.hid hG.b
      have HW := Lib.hid (show gx ≠ gb ∧ w.heap.size ≤ gx ∧ w.heap.size ≤ gb from ⟨hG.ne, hG.hx, hG.hb⟩)
      have HXS := Lib.hid hxs
      have HTK := Lib.hid htk
      have HJK := Lib.hid hjk
      have j0 : (0 : Int) ≤ (j : Int) := by omega
      have j1 : (j : Int) < (R.length : Int) := by omega
      have j2 : (R.length : Int) ≤ 100000 := by omega
      have e4 : ∀ z : Int, z = (j : Int) + 1 → wrap64 z = z := fun z hz => by subst hz; unfold wrap64; omega
      clear hT hxs hG hx hxx htk hl0 hjk hj
      go_upto_region 5 with (fail)
      refine start_ (n := 19) (S := fun w' => w'.cell? ⟨gx, 1, none⟩ = some vE ∧ w'.cell? ⟨b2, j * 2, none⟩ = some (.int .i64 u) ∧ w'.cell? ⟨b2, j * 2 + 1, none⟩ = some (.int .i64 v)) (ds := [16, 18]) (bA 19 0) (by kernel_rfl) rfl rfl ⟨q1, qu, qv⟩ (fun hHeld => ?_)
      refine with_tabW tb29_5.tab5 tb29_5.bits5 (fun HT_ HW_ => ?_)
      refine pw_ 0 16 (bA 19 1) HT_.out ?_
      refine pw_ 2 18 (bA 19 5) HT_.out ?_
      refine pw_ 3 19 (bA 19 13) HT_.out ?_
      refine pw_ 4 20 (bA 19 29) HT_.out ?_
      refine pw_ 5 21 (bA 19 61) HT_.out ?_
      refine pw_ 6 22 (bA 19 125) HT_.out ?_
      refine pw_ 7 23 (bA 19 253) HT_.out ?_
      refine pw_ 9 25 (bA 19 765) HT_.out ?_
      refine pw_ 10 26 (bA 19 1789) HT_.out ?_
      refine pw_ 11 27 (bA 19 3837) HT_.out ?_
      refine pw_ 12 28 (bA 19 7933) HT_.out ?_
      refine tw_ 1 17 (bA 19 7935) HT_.out HW_.out hHeld (hv := by rintro w' ⟨s0, s1, s2⟩; go_simp; with_reducible rfl) (h := ?_)
      refine tw_ 8 24 (bA 19 8191) HT_.out HW_.out hHeld (hv := by rintro w' ⟨s0, s1, s2⟩; go_simp; with_reducible rfl) (h := ?_)
      refine tw_ 13 29 (bA 19 16383) HT_.out HW_.out hHeld (hv := by rintro w' ⟨s0, s1, s2⟩; go_simp; with_reducible rfl) (h := ?_)
      refine pw_ 14 30 (bA 19 32767) HT_.out ?_
      refine one_ (i := 15) (N := some 31) (bA 19 65535) rfl rfl (one_of HT_.out (by kernel_rfl)) (by decide) (fun K hK => ?_)
      refine value_ (w1 := ?_) (v := ?_) (by rfl) rfl ?_ ?_
      rotate_left 2
      · go_simp
        constructor
        · rfl
        · rfl
      refine hK.out _ _ ⟨(cell_al (w := wr.drew) q1 _), (cell_al (w := wr.drew) qu _), (cell_al (w := wr.drew) qv _)⟩ (fun hHeld => ?_)
      clear hK K
      refine norm_ (a' := ?_) ?_ ?_
      rotate_left
      · show Act.put _ (some 31) _ = _
        simp only [Act.put, pA, pB, pC, pD, pE]; rfl
      refine last_ (i := 16) (N := some 32) (bA 19 131071) rfl rfl (one_of HT_.out (by kernel_rfl)) (by decide) (fun K hK => ?_)
      refine step_append_any rfl (.tmp 17) (.tmp 31) 31 rfl w.heap.size 55 i4 (.agg #[.int .i64 0, .int .i64 0, .int .i64 0, .int .u32 0]) 4 32 Try.underlying31 hi4 hz4 hs4 hy4 rfl (by omega) _ _ _ rfl (HT.out.r2.drew.alloc (.cells #[.int .i64 ((j : Int) + 1), .int .i64 u, .int .i64 v, .int .u32 0] 55)) _ rfl 1 [.int .i64 ((j : Int) + 1), .int .i64 u, .int .i64 v, .int .u32 0] (RdV.lit wr.drew #[.int .i64 ((j : Int) + 1), .int .i64 u, .int .i64 v, .int .u32 0] 55 1 4 1 rfl (by simp [Value.oneCell'])) (by unfold maxLen; omega) (by omega) (by have := HT.out.b.size; simp; omega) ?_
      intro v6 w6 ho hg hn
      obtain ⟨A6, c6, rfl⟩ := own_slice ho
      have htwo := (HT.out.below (Below.drAl wr (.cells #[.int .i64 ((j : Int) + 1), .int .i64 u, .int .i64 v, .int .u32 0] 55))).grow2 ho hg hn
      have hgx := (HX.out.drew.al (o := (.cells #[.int .i64 ((j : Int) + 1), .int .i64 u, .int .i64 v, .int .u32 0] 55))).grown hg (own_off (HT.out.r2.drew.alloc (.cells #[.int .i64 ((j : Int) + 1), .int .i64 u, .int .i64 v, .int .u32 0] 55)) (HX.out.drew.al) (by decide))
      have hgb := (HGB.out.drew.al (o := (.cells #[.int .i64 ((j : Int) + 1), .int .i64 u, .int .i64 v, .int .u32 0] 55))).grown hg (own_off (HT.out.r2.drew.alloc (.cells #[.int .i64 ((j : Int) + 1), .int .i64 u, .int .i64 v, .int .u32 0] 55)) (HGB.out.drew.al) (by decide))
      have hs16 := hgx.cell 1 rfl
      have hf16 := hgx.free 1
      have HT6 := Lib.hid htwo
      have HX6 := Lib.hid hgx
      have HGB6 := Lib.hid hgb
      clear ho hg hn htwo hgx hgb HT HX HGB; refine hK.out _ _ ?_; clear hK K
      refine norm_ (a' := ?_) ?_ ?_
      rotate_left
      · show Act.put _ (some 32) _ = _
        simp only [Act.put, pA, pB, pC, pD, pE]; rfl
      refine pw_ 17 33 (bA 19 262143) HT_.out ?_
      refine last_ (i := 18) (N := none) (bA 19 524287) rfl rfl (one_of HT_.out (by kernel_rfl)) (by decide) (fun K hK => ?_)
      refine skip_ (w1 := ?_) (by rfl) rfl ?_ ?_
      rotate_left; · go_simp; rfl
      refine hK.out _ _ ?_; clear hK K
      refine done_ (done_of HT_.out (by kernel_rfl)) ?_
      clear hHeld HT_ HW_; clear q1 qu qv
      go_wp2
      go_roundg k1
      case measure => have := HJK.out; omega
      case rel =>
        refine ⟨j + 1, by go_num, Lib.hid ⟨by have := HJK.out; omega, .slice A6 (l0.length + 1) c6, ?_⟩⟩
        rw [HTK.out]
        have ht := HT6.out
        refine ⟨HX6.out.put rfl, HGB6.out.off HW.out.1.symm, HW.out.1, HW.out.2.1, HW.out.2.2, xs ++ [.int .i64 ((j : Int) + 1), .int .i64 u, .int .i64 v, .int .u32 0], HXS.out.snoc, ?_⟩
        rw [List.length_append, List.length_singleton]
        exact ⟨own_beside ht.r1 HX6.out (by decide), own_beside ht.r2 HX6.out (by decide), ht.ne, ht.b.setCell HW.out.2.1 _⟩
    · obtain rfl : j = R.length := by omega
      rw [List.take_length] at hxs hT hG
      obtain ⟨AE, ce, rfl⟩ := own_slice hT.r2
      have q0 := hG.x.cell 0 rfl
      have q1 := hG.x.cell 1 rfl
      have q2 := hG.x.cell 2 rfl
      have q3 := hG.x.cell 3 rfl
      have g0 := hG.b.cell 0 rfl
      have g1 := hG.b.cell 1 rfl
      have g2 := hG.b.cell 2 rfl
      have g3 := hG.b.cell 3 rfl
      have f0 := hG.b.free 0
      have f1 := hG.b.free 1
      have f2 := hG.b.free 2
      have f3 := hG.b.free 3
      have HG := Lib.hid hG
      have HT := Lib.hid hT
      have HXS := Lib.hid hxs
      clear hG hT hxs hjk hj
      go_wp2_with fail
      have a1 : At _ gb [.slice A5 n cg, .slice none 0 0, .int .i64 0, .int .i64 0] 35 := HG.out.b.set 0 (.slice A5 n cg)
      have a2 : At _ gb [.slice A5 n cg, .slice AE R.length ce, .int .i64 0, .int .i64 0] 35 := a1.set 1 (.slice AE R.length ce)
      have a3 : At _ gb [.slice A5 n cg, .slice AE R.length ce, .int .i64 0, .int .i64 0] 35 := a2.set 2 (.int .i64 0)
      have a4 : At _ gb [.slice A5 n cg, .slice AE R.length ce, .int .i64 0, .int .i64 0] 35 := a3.set 3 (.int .i64 0)
      have hgw := HG.out.hb
      have o1 := own_beside (i := 3) (u := .int .i64 0) (own_beside (i := 2) (u := .int .i64 0) (own_beside (i := 1) (u := .slice AE R.length ce) (own_beside (i := 0) (u := .slice A5 n cg) HT.out.r1 HG.out.b (by decide)) a1 (by decide)) a2 (by decide)) a3 (by decide)
      have o2 := own_beside (i := 3) (u := .int .i64 0) (own_beside (i := 2) (u := .int .i64 0) (own_beside (i := 1) (u := .slice AE R.length ce) (own_beside (i := 0) (u := .slice A5 n cg) HT.out.r2 HG.out.b (by decide)) a1 (by decide)) a2 (by decide)) a3 (by decide)
      have hbb := (((HT.out.b.setCell (p := ⟨gb, 0, none⟩) hgw (.slice A5 n cg)).setCell (p := ⟨gb, 1, none⟩) hgw (.slice AE R.length ce)).setCell (p := ⟨gb, 2, none⟩) hgw (.int .i64 0)).setCell (p := ⟨gb, 3, none⟩) hgw (.int .i64 0)
      refine bodyPost_ret (results_cell_row rfl _ _ gb 35 #[.slice A5 n cg, .slice AE R.length ce, .int .i64 0, .int .i64 0] (0, 0) _ rfl a4 Try.underlying35 rfl (by kernel_rfl)) rfl ?_
      refine ⟨A5, cg, AE, ce, rfl, (RdI.of_own o1).1, fun i u v hx => ?_, hbb⟩
      have hi : i < R.length := (List.getElem?_eq_some_iff.1 hx).1
      obtain ⟨ge, hge, _, hcc⟩ := cell_flat o2 (by omega)
      have hcs := HXS.out.2 i u v hx
      exact ⟨ge, hge, hcc _ _ hcs.1, hcc _ _ hcs.2⟩

end Go.Proofs.Ytgihncjllelonaa.Lw
