/- The references' Sorted, walked. -/
import Derived.Test.YthomnpgpbhpojaaPo5
import Derived.Test.YthomnpgpbhpojaaPo22
namespace Go.Proofs.Ythomnpgpbhpojaa.Lw
open Go Go.RowKit Go.Proofs.Ythomnpgpbhpojaa.Mem Go.Proofs.Ythomnpgpbhpojaa.Sl Go.Proofs.Ythomnpgpbhpojaa.Scc Go.Proofs.Ythomnpgpbhpojaa.Tj Go.Proofs.YthomnpgpbhpojaaW.PrintWords Go.Proofs.YthomnpgpbhpojaaW.PrintLast
attribute [local go_sem ↓] Go.wp_at_zero Go.wp_at_succ
set_option linter.unusedSimpArgs false
set_option linter.unusedVariables false

theorem ins_ok {old : List Int} {a : Int} {k : Nat} (hs : old.Pairwise (· ≤ ·)) (hlow : ∀ x ∈ old.take k, x ≤ a) (hhigh : ∀ x ∈ old.drop k, a < x) {t : List Int} (ht : t.Perm old) : sorted (t ++ [a]) = old.take k ++ a :: old.drop k := by
  refine sorted_of ?_ ?_
  · have h1 : (t ++ [a]).Perm (a :: old) := List.perm_append_comm.trans (ht.cons a)
    refine h1.trans ?_
    have h2 : (old.take k ++ a :: old.drop k).Perm (a :: (old.take k ++ old.drop k)) := List.perm_middle
    rw [List.take_append_drop] at h2
    exact h2.symm
  · rw [List.pairwise_append, List.pairwise_cons]
    have hs' := hs
    rw [← List.take_append_drop k old, List.pairwise_append] at hs'
    refine ⟨hs'.1, ⟨fun x hx => Int.le_of_lt (hhigh x hx), hs'.2.1⟩, fun x hx y hy => ?_⟩
    rcases List.mem_cons.1 hy with rfl | hy
    · exact hlow x hx
    · exact hs'.2.2 x hx y hy

theorem low_all {old : List Int} {a : Int} {k : Nat} (hs : old.Pairwise (· ≤ ·)) (hk : k < old.length) (h : old[k] ≤ a) : ∀ x ∈ old.take (k + 1), x ≤ a := by
  intro x hx
  obtain ⟨j, hj, rfl⟩ := List.mem_take_iff_getElem.1 hx
  rcases Nat.lt_or_ge j k with h1 | h1
  · have := List.pairwise_iff_getElem.1 hs j k (by omega) hk h1
    omega
  · obtain rfl : j = k := by omega
    exact h

theorem hole_at {old : List Int} {h : Int} {k : Nat} (hk : k < old.length) : (old.take (k + 1) ++ h :: old.drop (k + 1))[k]? = some old[k] := by
  rw [List.getElem?_append_left (by rw [List.length_take]; omega), List.getElem?_take, if_pos (by omega), List.getElem?_eq_getElem hk]
theorem hole_set {old : List Int} {h x : Int} {k : Nat} (hk : k ≤ old.length) : (old.take k ++ h :: old.drop k).set k x = old.take k ++ x :: old.drop k := by
  have hl : (old.take k).length = k := by rw [List.length_take]; omega
  rw [List.set_append, if_neg (by omega), hl, Nat.sub_self, List.set_cons_zero]
theorem hole_down {old : List Int} {k : Nat} (hk : k < old.length) : old.take (k + 1) ++ old[k] :: old.drop (k + 1) = old.take k ++ old[k] :: old.drop k := by
  rw [List.take_succ_eq_append_getElem hk, List.append_assoc, List.drop_eq_getElem_cons hk]
  rfl
theorem hole_length {old : List Int} {h : Int} {k : Nat} (hk : k ≤ old.length) : (old.take k ++ h :: old.drop k).length = old.length + 1 := by
  rw [List.length_append, List.length_cons, List.length_take, List.length_drop]
  omega

def tb48_7.T7 : Bool × List (List Nat × List Nat) := (true, [([], []), ([0], [0]), ([1], [1]), ([2], [2]), ([2], [2]), ([4, 2], [2, 4]), ([3, 5, 2], [2, 3, 5]), ([6, 2], [2, 6]), ([2], [2]), ([2], [2]), ([8, 9, 2], [2, 8, 9]), ([10, 2], [2, 10]), ([7, 11, 2], [2, 7, 11]), ([2, 12], [2, 12])])
def tb48_7.B7 : List Nat := [0, 1, 3, 7, 7, 23, 63, 127, 7, 7, 775, 1799, 4095, 8191]
theorem tb48_7.tab7 : rtab .any (opsOf Try.f48 7) = tb48_7.T7 := by kernel_rfl
theorem tb48_7.bits7 : waitsOk tb48_7.T7.2 tb48_7.B7 = true := by kernel_rfl
set_option maxHeartbeats 8000000 in
set_option maxRecDepth 100000 in
theorem sorted_calls (w : World) (A : Option Addr) (c : Nat) (l : List Int) (hv : RdI w A l) (hl : l.length ≤ 1000000) :
    Calls Try.prog 48 #[.slice A l.length c] w fun e w' => ∃ v, e = .returned v ∧ One w 3 1 v l.length (ints (sorted l)) w' := by
  obtain ⟨i1, hi1, hz1, hs1, hy1⟩ := info_parts info_int
  have HV := Lib.hid hv
  clear hv
  go_enter Try.func48, Try.ntmps48
  go_wp2
  go_loopg [3, 4, 5] l.length (fun kq v3 v4 v5 w' => ∃ i : Nat, v4 = .int .i64 (i : Int) ∧ Hid (i + kq = l.length ∧ One w 3 1 v3 i (ints (sorted (l.take i))) w'))
  case atStart => exact ⟨0, rfl, Lib.hid ⟨by omega, by rw [List.take_zero]; simp only [sorted, List.mergeSort_nil]; exact One.start⟩⟩
  case round =>
    obtain ⟨i, rfl, hI⟩ := hrel
    obtain ⟨hik, hO⟩ := hI.out
    clear hI
    by_cases hi : i < l.length
    · obtain ⟨k1, rfl⟩ : ∃ k1, gk = k1 + 1 := ⟨gk - 1, by omega⟩
      obtain ⟨a, ha⟩ : ∃ a, l[i]? = some a := ⟨_, List.getElem?_eq_getElem hi⟩
      obtain ⟨b, rfl, ca⟩ := (HV.out.below hO.b) i a ha
      obtain ⟨t, htk⟩ : ∃ t, l.take i = t := ⟨_, rfl⟩
      have htl : l.take (i + 1) = t ++ [a] := by rw [List.take_add_one, ha, htk]; rfl
      rw [htk] at hO
      have hop : t.Perm (sorted t) := (List.mergeSort_perm t _).symm
      obtain ⟨old, hold⟩ : ∃ old, sorted t = old := ⟨_, rfl⟩
      have hos : old.Pairwise (· ≤ ·) := hold ▸ sorted_rising t
      rw [hold] at hO hop
      have hon : old.length = i := by have := hO.r.1; rw [ints_length] at this; omega
      obtain ⟨A3, c3, rfl⟩ := own_slice hO.r
      have HO := Lib.hid hO
      have HX := Lib.hid ha
      have HTL := Lib.hid htl
      have HOP := Lib.hid hop
      have HOS := Lib.hid hos
      have HON := Lib.hid hon
      have HIK := Lib.hid hik
      have j0 : (0 : Int) ≤ (i : Int) := by omega
      have j1 : (i : Int) < (l.length : Int) := by omega
      have j2 : (l.length : Int) ≤ 1000000 := by omega
      clear hO ha htl hop hos hon hik hold htk hi
      go_wp2_with ((at_builtin; refine wpList_append_any rfl (.tmp 14) (.tmp 19) 25 rfl w.heap.size 3 i1 (.int .i64 0) 1 8 Try.underlying25 hi1 hz1 hs1 hy1 rfl (by omega) _ _ _ rfl (HO.out.r.alloc (.cells #[.int .i64 a] 3)) _ rfl 1 [.int .i64 a] (RdV.lit wr #[.int .i64 a] 3 1 1 1 rfl (by simp [Value.oneCell'])) (by unfold maxLen; omega) (by omega) (by have := HO.out.b.size; simp; omega) ?_; intro v3 w3 ho hg hn; have hone := (HO.out.below ((Below.refl _ _).alloc (Nat.le_refl _) (.cells #[.int .i64 a] 3))).grow ho hg; have HO3 := Lib.hid hone; clear ho hg hn hone HO))
      have hw3 := HO3.out.r
      obtain ⟨g, cg, rfl, hgb, _⟩ := hw3.form (by omega)
      have HGB := Lib.hid hgb
      clear hw3 hgb ca
      go_loopg [5] i (fun k v5 w' => v5 = .int .i64 (k : Int) ∧ Hid (k ≤ i ∧ ∃ h, One w 3 1 (.slice (some ⟨g, 0, none⟩) (i + 1) cg) (i + 1) (ints (old.take k ++ h :: old.drop k)) w' ∧ ∀ x ∈ old.drop k, a < x))
      case atStart => exact ⟨rfl, Lib.hid ⟨Nat.le_refl _, a, by rw [List.take_of_length_le (Nat.le_of_eq HON.out), List.drop_of_length_le (Nat.le_of_eq HON.out), ← ints_snoc]; exact HO3.out, by rw [List.drop_of_length_le (Nat.le_of_eq HON.out)]; simp⟩⟩
      case round =>
        clear HO3
        obtain ⟨rfl, hI⟩ := hrel
        obtain ⟨hkn, h, hO, hhi⟩ := hI.out
        clear hI
        have hon := HON.out
        cases gk with
        | zero =>
          have HHI := Lib.hid hhi
          have HO := Lib.hid (show One w 3 1 (.slice (some ⟨g, 0, none⟩) (i + 1) cg) (i + 1) (ints (old.take 0 ++ h :: old.drop 0)) wr.drew from ⟨hO.r.drew, hO.b.drew⟩)
          clear hO hhi
          go_upto_region 7 with (fail)
          refine start_ (n := 14) (S := fun w' => True) (ds := []) (bA 14 0) (by kernel_rfl) rfl rfl trivial (fun hHeld => ?_)
          refine with_tabW tb48_7.tab7 tb48_7.bits7 (fun HT_ HW_ => ?_)
          refine pw_ 0 21 (bA 14 1) HT_.out ?_
          refine pw_ 1 22 (bA 14 3) HT_.out ?_
          refine pw_ 2 23 (bA 14 7) HT_.out ?_
          refine pu_ 3 24 (bA 14 15) HT_.out ?_
          refine pu_ 4 25 (bA 14 31) HT_.out ?_
          refine pu_ 5 26 (bA 14 63) HT_.out ?_
          refine pu_ 6 27 (bA 14 127) HT_.out ?_
          refine pu_ 7 28 (bA 14 255) HT_.out ?_
          refine pu_ 8 29 (bA 14 511) HT_.out ?_
          refine pu_ 9 30 (bA 14 1023) HT_.out ?_
          refine pu_ 10 31 (bA 14 2047) HT_.out ?_
          refine pu_ 11 32 (bA 14 4095) HT_.out ?_
          refine pu_ 12 33 (bA 14 8191) HT_.out ?_
          refine pw_ 13 34 (bA 14 16383) HT_.out ?_
          refine done_ (done_of HT_.out (by kernel_rfl)) ?_
          clear hHeld HT_ HW_
          obtain ⟨wz, hwz⟩ : ∃ wz, wr.drew = wz := ⟨_, rfl⟩
          rw [hwz] at HO ⊢
          clear hwz
          obtain ⟨x0, hx0⟩ : ∃ x0, (ints (old.take 0 ++ h :: old.drop 0))[0]? = some x0 := ⟨_, List.getElem?_eq_getElem (by rw [ints_length, hole_length (by omega)]; omega)⟩
          have hck : wz.cell? ⟨g, 0, none⟩ = some x0 := (HO.out.r.cellAt 0 (by omega)).trans hx0
          have hfr : wz.frozen? ⟨g, 0, none⟩ = false := HO.out.r.frozenAt 0
          have ca : wz.cell? ⟨b, i, none⟩ = some (.int .i64 a) := by
            obtain ⟨_, he, h3⟩ := (HV.out.below HO.out.b) i a HX.out
            cases he
            exact h3
          have hst := HO.out.r.stored 0 (.int .i64 a)
          rw [ints_set, hole_set (by omega)] at hst
          have hins := ins_ok (a := a) (k := 0) HOS.out (by simp) HHI.out HOP.out
          rw [← hins] at hst
          have hone : One w 3 1 (.slice (some ⟨g, 0, none⟩) (i + 1) cg) (i + 1) (ints (sorted (t ++ [a]))) (wz.setCell ⟨g, 0, none⟩ (.int .i64 a)) := ⟨hst.1, HO.out.b.setCell HGB.out _⟩
          have HN := Lib.hid hone
          clear hst hins hone HO hx0 HHI
          go_wp2_with fail
          go_roundg k1
          case measure => have := HIK.out; omega
          case rel => exact ⟨i + 1, by go_num, Lib.hid ⟨by have := HIK.out; omega, by rw [HTL.out]; exact HN.out⟩⟩
        | succ k =>
          obtain ⟨y, hy⟩ : ∃ y, old[k]? = some y := ⟨_, List.getElem?_eq_getElem (by omega)⟩
          obtain ⟨hkl, hye⟩ := List.getElem?_eq_some_iff.1 hy
          have cy := (hO.r.cellAt k (by omega)).trans (ints_at _ ((hole_at (h := h) hkl).trans (congrArg some hye)))
          obtain ⟨_, he, ca⟩ := (HV.out.below hO.b) i a HX.out
          cases he
          have k0 : (0 : Int) ≤ (k : Int) := by omega
          have k1' : (k : Int) < (i : Int) + 1 := by omega
          have k2' : (k : Int) + 1 < (i : Int) + 1 := by omega
          have e3 : decide ((0 : Int) < ((k + 1 : Nat) : Int)) = true := by rw [decide_eq_true_eq]; omega
          have e4 : ∀ x : Nat, x = k → wrap64 (x : Int) = (x : Int) := fun x hx => by subst hx; unfold wrap64; omega
          have HKN := Lib.hid hkn
          have HKL := Lib.hid hkl
          by_cases hya : a < y
          · have e5 : decide (a < y) = true := by rw [decide_eq_true_eq]; exact hya
            have hOz : One w 3 1 (.slice (some ⟨g, 0, none⟩) (i + 1) cg) (i + 1) (ints (old.take (k + 1) ++ h :: old.drop (k + 1))) wr.drew := ⟨hO.r.drew, hO.b.drew⟩
            obtain ⟨x0, hx0⟩ : ∃ x0, (ints (old.take (k + 1) ++ h :: old.drop (k + 1)))[k + 1]? = some x0 := ⟨_, List.getElem?_eq_getElem (by rw [ints_length, hole_length (by omega)]; omega)⟩
            have cyz : wr.drew.cell? ⟨g, k, none⟩ = some (.int .i64 y) := cy
            have hck := (hOz.r.cellAt (k + 1) (by omega)).trans hx0
            have hfr := hOz.r.frozenAt (k + 1)
            have hst := hOz.r.stored (k + 1) (.int .i64 y)
            rw [ints_set, hole_set (by omega)] at hst
            rw [show old.take (k + 1) ++ y :: old.drop (k + 1) = old.take k ++ y :: old.drop k by rw [← hye]; exact hole_down hkl] at hst
            have hone : One w 3 1 (.slice (some ⟨g, 0, none⟩) (i + 1) cg) (i + 1) (ints (old.take k ++ y :: old.drop k)) (wr.drew.setCell ⟨g, k + 1, none⟩ (.int .i64 y)) := ⟨hst.1, hOz.b.setCell HGB.out _⟩
            have HH := Lib.hid (show ∀ x ∈ old.drop k, a < x from fun x hx => by
              rw [List.drop_eq_getElem_cons hkl] at hx
              rcases List.mem_cons.1 hx with rfl | hx
              · rw [hye]; exact hya
              · exact hhi x hx)
            obtain ⟨wz, hwz⟩ : ∃ wz, wr.drew = wz := ⟨_, rfl⟩
            rw [hwz] at cyz hck hfr hone
            have HN := Lib.hid hone
            have HWZ := Lib.hid hwz
            clear hO hOz hst hone hhi hx0 hy hya hkl hye hkn hwz
            go_upto_region 7 with (fail)
            refine start_ (n := 14) (S := fun w' => w'.cell? ⟨g, k, none⟩ = some (.int .i64 y) ∧ w'.cell? ⟨b, i, none⟩ = some (.int .i64 a)) (ds := []) (bA 14 0) (by kernel_rfl) rfl rfl ⟨cy, ca⟩ (fun hHeld => ?_)
            refine with_tabW tb48_7.tab7 tb48_7.bits7 (fun HT_ HW_ => ?_)
            refine pw_ 0 21 (bA 14 1) HT_.out ?_
            refine pw_ 1 22 (bA 14 3) HT_.out ?_
            refine pw_ 2 23 (bA 14 7) HT_.out ?_
            refine pw_ 3 24 (bA 14 15) HT_.out ?_
            refine pw_ 4 25 (bA 14 31) HT_.out ?_
            refine pw_ 5 26 (bA 14 63) HT_.out ?_
            refine pw_ 6 27 (bA 14 127) HT_.out ?_
            refine pw_ 8 29 (bA 14 383) HT_.out ?_
            refine pw_ 9 30 (bA 14 895) HT_.out ?_
            refine pw_ 10 31 (bA 14 1919) HT_.out ?_
            refine tw_ 7 28 (bA 14 2047) HT_.out HW_.out hHeld (hv := by rintro w' ⟨s0, s1⟩; go_simp; with_reducible rfl) (h := ?_)
            refine tw_ 11 32 (bA 14 4095) HT_.out HW_.out hHeld (hv := by rintro w' ⟨s0, s1⟩; go_simp; with_reducible rfl) (h := ?_)
            refine pw_ 12 33 (bA 14 8191) HT_.out ?_
            refine pw_ 13 34 (bA 14 16383) HT_.out ?_
            refine done_ (done_of HT_.out (by kernel_rfl)) ?_
            clear hHeld HT_ HW_
            rw [HWZ.out]
            clear cy ca HWZ
            go_wp2
            go_roundg k
            case measure => omega
            case rel => exact ⟨by go_num, Lib.hid ⟨by have := HKN.out; omega, y, HN.out, HH.out⟩⟩
          · have e5 : decide (a < y) = false := by rw [decide_eq_false_iff_not]; exact hya
            have HLOW := Lib.hid (low_all (a := a) HOS.out hkl (by rw [hye]; omega))
            have HHI := Lib.hid hhi
            have HO := Lib.hid (show One w 3 1 (.slice (some ⟨g, 0, none⟩) (i + 1) cg) (i + 1) (ints (old.take (k + 1) ++ h :: old.drop (k + 1))) wr.drew from ⟨hO.r.drew, hO.b.drew⟩)
            clear hO hhi hy hya hkl hye hkn
            go_upto_region 7 with (fail)
            refine start_ (n := 14) (S := fun w' => w'.cell? ⟨g, k, none⟩ = some (.int .i64 y) ∧ w'.cell? ⟨b, i, none⟩ = some (.int .i64 a)) (ds := []) (bA 14 0) (by kernel_rfl) rfl rfl ⟨cy, ca⟩ (fun hHeld => ?_)
            refine with_tabW tb48_7.tab7 tb48_7.bits7 (fun HT_ HW_ => ?_)
            refine pw_ 0 21 (bA 14 1) HT_.out ?_
            refine pw_ 1 22 (bA 14 3) HT_.out ?_
            refine pw_ 2 23 (bA 14 7) HT_.out ?_
            refine pw_ 3 24 (bA 14 15) HT_.out ?_
            refine pw_ 4 25 (bA 14 31) HT_.out ?_
            refine pw_ 5 26 (bA 14 63) HT_.out ?_
            refine pw_ 6 27 (bA 14 127) HT_.out ?_
            refine pw_ 8 29 (bA 14 383) HT_.out ?_
            refine pw_ 9 30 (bA 14 895) HT_.out ?_
            refine pw_ 10 31 (bA 14 1919) HT_.out ?_
            refine tw_ 7 28 (bA 14 2047) HT_.out HW_.out hHeld (hv := by rintro w' ⟨s0, s1⟩; go_simp; with_reducible rfl) (h := ?_)
            refine tw_ 11 32 (bA 14 4095) HT_.out HW_.out hHeld (hv := by rintro w' ⟨s0, s1⟩; go_simp; with_reducible rfl) (h := ?_)
            refine pw_ 12 33 (bA 14 8191) HT_.out ?_
            refine pw_ 13 34 (bA 14 16383) HT_.out ?_
            refine done_ (done_of HT_.out (by kernel_rfl)) ?_
            clear hHeld HT_ HW_; clear cy ca
            obtain ⟨wz, hwz⟩ : ∃ wz, wr.drew = wz := ⟨_, rfl⟩
            rw [hwz] at HO ⊢
            clear hwz
            have hkn := HKN.out
            obtain ⟨x0, hx0⟩ : ∃ x0, (ints (old.take (k + 1) ++ h :: old.drop (k + 1)))[(k + 1)]? = some x0 := ⟨_, List.getElem?_eq_getElem (by rw [ints_length, hole_length (by omega)]; omega)⟩
            have hck : wz.cell? ⟨g, (k + 1), none⟩ = some x0 := (HO.out.r.cellAt (k + 1) (by omega)).trans hx0
            have hfr : wz.frozen? ⟨g, (k + 1), none⟩ = false := HO.out.r.frozenAt (k + 1)
            have ca : wz.cell? ⟨b, i, none⟩ = some (.int .i64 a) := by
              obtain ⟨_, he, h3⟩ := (HV.out.below HO.out.b) i a HX.out
              cases he
              exact h3
            have hst := HO.out.r.stored (k + 1) (.int .i64 a)
            rw [ints_set, hole_set (by omega)] at hst
            have hins := ins_ok (a := a) (k := (k + 1)) HOS.out HLOW.out HHI.out HOP.out
            rw [← hins] at hst
            have hone : One w 3 1 (.slice (some ⟨g, 0, none⟩) (i + 1) cg) (i + 1) (ints (sorted (t ++ [a]))) (wz.setCell ⟨g, (k + 1), none⟩ (.int .i64 a)) := ⟨hst.1, HO.out.b.setCell HGB.out _⟩
            have HN := Lib.hid hone
            clear hst hins hone HO hx0 HHI
            go_wp2_with fail
            go_roundg k1
            case measure => have := HIK.out; omega
            case rel => exact ⟨i + 1, by go_num, Lib.hid ⟨by have := HIK.out; omega, by rw [HTL.out]; exact HN.out⟩⟩
    · obtain rfl : i = l.length := by omega
      rw [List.take_length] at hO
      have HO := Lib.hid hO
      clear hO hik hi
      go_wp2
      go_ret
      exact ⟨_, rfl, HO.out⟩

end Go.Proofs.Ythomnpgpbhpojaa.Lw

/- The references' Place, walked. -/
namespace Go.Proofs.Ythomnpgpbhpojaa.Lw
open Go Go.RowKit Go.Proofs.Ythomnpgpbhpojaa.Mem Go.Proofs.Ythomnpgpbhpojaa.Sl Go.Proofs.Ythomnpgpbhpojaa.Scc Go.Proofs.Ythomnpgpbhpojaa.Tj Go.Proofs.YthomnpgpbhpojaaW.PrintWords Go.Proofs.YthomnpgpbhpojaaW.PrintLast
attribute [local go_sem ↓] Go.wp_at_zero Go.wp_at_succ
set_option linter.unusedSimpArgs false
set_option linter.unusedVariables false

def plI (sl : List Int) (v : Int) : Int := if sl.contains v = true then (place sl v : Int) else -1

theorem plI_at {sl : List Int} (hs : sl.Pairwise (· < ·)) {v : Int} {lo : Nat} (h : sl[lo]? = some v) : plI sl v = (lo : Int) := by
  obtain ⟨hl, he⟩ := List.getElem?_eq_some_iff.1 h
  unfold plI
  rw [if_pos (by simpa using List.mem_of_getElem? h), ← he, place_at sl lo hs hl]
theorem plI_none {sl : List Int} {v : Int} {lo : Nat} (h1 : ∀ (i : Nat) (x : Int), i < lo → sl[i]? = some x → x < v) (h2 : ∀ (i : Nat) (x : Int), lo ≤ i → sl[i]? = some x → v ≤ x) (hs : sl.Pairwise (· < ·)) (h3 : sl[lo]? ≠ some v) : plI sl v = -1 := by
  unfold plI
  rw [if_neg]
  intro hc
  have hm : v ∈ sl := by simpa using hc
  obtain ⟨j, hj, he⟩ := List.getElem_of_mem hm
  have hjs : sl[j]? = some v := by rw [List.getElem?_eq_getElem hj, he]
  rcases Nat.lt_trichotomy j lo with h | h | h
  · have := h1 j v h hjs; omega
  · subst h; exact h3 hjs
  · have hlo : lo < sl.length := by omega
    have h4 := h2 lo _ (Nat.le_refl _) (List.getElem?_eq_getElem hlo)
    have h5 := List.pairwise_iff_getElem.1 hs lo j hlo hj h
    omega

def gV (A : Option Addr) (n c : Nat) (E : Value) (gw : Int := 0) : Value := .agg #[.slice A n c, E, .int .i64 0, .int .i64 gw]


set_option maxHeartbeats 8000000 in
set_option maxRecDepth 100000 in
theorem place_calls {gw : Int} (w : World) (A AE : Option Addr) (c m ce : Nat) (sl : List Int) (v : Int) (hv : RdI w A sl) (hs : sl.Pairwise (· < ·)) (hl : sl.length ≤ 1000000) :
    Calls Try.prog 47 #[gV A sl.length c (.slice AE m ce) gw, .int .i64 v] w fun e w' => e = .returned (.int .i64 (plI sl v)) ∧ Below w.heap.size w w' := by
  obtain ⟨n, hn⟩ : ∃ n, sl.length = n := ⟨_, rfl⟩
  rw [hn] at hl ⊢
  have HV := Lib.hid hv
  have HS := Lib.hid hs
  have HN := Lib.hid hn
  clear hv hs hn
  unfold gV
  go_enter Try.func47, Try.ntmps47
  go_upto_region 1 with (fail)
  refine gen_world (fun W => At W w.heap.size [.slice A n c, .slice AE m ce, .int .i64 0, .int .i64 gw] 28 ∧ Below w.heap.size w W) ?_ ?_
  · exact ⟨At.made rfl rfl, (Below.refl _ _).alloc (Nat.le_refl _) _⟩
  obtain ⟨gb, hgb⟩ : ∃ gb, w.heap.size = gb := ⟨_, rfl⟩
  rw [hgb]
  rintro W ⟨hat, hb⟩
  have cg := hat.cell 0 rfl
  have HAT := Lib.hid hat
  have HB := Lib.hid (hgb ▸ hb : Below w.heap.size w W)
  clear hat hb hgb
  refine start_ (n := 5) (S := fun w' => w'.cell? ⟨gb, 0, none⟩ = some (.slice A n c)) (ds := []) (bA 5 0) (by kernel_rfl) rfl rfl (cg) (fun hHeld => ?_)
  refine pk_ 0 8 (bA 5 1) ?_
  refine pk_ 3 5 (bA 5 9) ?_
  refine tk_ 1 9 (bA 5 11) hHeld (hv := by intro w' s0; go_simp; with_reducible rfl) (h := ?_)
  refine pk_ 2 10 (bA 5 15) ?_
  refine pk_ 4 6 (bA 5 31) ?_
  refine done_ (by kernel_rfl) ?_
  clear hHeld; clear cg
  refine gen_then (fun W => At W gb [.slice A n c, .slice AE m ce, .int .i64 0, .int .i64 gw] 28 ∧ Below w.heap.size w W) ?_ ?_
  · exact ⟨HAT.out.drew, HB.out.drew⟩
  clear HAT HB
  rintro W0 ⟨hat, hb⟩
  have cg := hat.cell 0 rfl
  have HB := Lib.hid hb
  clear hat hb
  go_wp2
  go_loopg [5, 6] n (fun kq v5 v6 w' => ∃ lo hi : Nat, v5 = .int .i64 (lo : Int) ∧ v6 = .int .i64 (hi : Int) ∧ Hid (lo + kq = hi ∧ hi ≤ n ∧ w' = W0 ∧ (∀ (i : Nat) (x : Int), i < lo → sl[i]? = some x → x < v) ∧ ∀ (i : Nat) (x : Int), hi ≤ i → sl[i]? = some x → v ≤ x))
  case atStart => exact ⟨0, n, rfl, rfl, Lib.hid ⟨by omega, Nat.le_refl _, rfl, fun i x h => by omega, fun i x h hx => by have := (List.getElem?_eq_some_iff.1 hx).1; have := HN.out; omega⟩⟩
  case round =>
    obtain ⟨lo, hi, rfl, rfl, hI⟩ := hrel
    obtain ⟨hlh, hhn, hw, h1, h2⟩ := hI.out
    subst hw
    clear hI
    cases gk with
    | zero =>
      obtain rfl : hi = lo := by omega
      by_cases hln : hi < n
      · obtain ⟨x, hx⟩ : ∃ x, sl[hi]? = some x := ⟨_, List.getElem?_eq_getElem (by have := HN.out; omega)⟩
        obtain ⟨b, rfl, cx⟩ := (HV.out.below HB.out) hi x hx
        have j0 : (0 : Int) ≤ (hi : Int) := by omega
        have j1 : (hi : Int) < (n : Int) := by omega
        have j2 : (n : Int) ≤ 1000000 := by omega
        by_cases hxv : x = v
        · subst hxv
          have hp := plI_at HS.out hx
          have HP := Lib.hid hp
          clear hp hx h1 h2 hlh hln
          go_wp2
          go_ret
          exact ⟨by rw [HP.out]; rfl, HB.out⟩
        · have hp := plI_none h1 h2 HS.out (by rw [hx]; simpa using hxv)
          have HP := Lib.hid hp
          have e1 : (x == v) = false := beq_eq_false_iff_ne.2 hxv
          clear hp hx h1 h2 hlh hln hxv
          go_wp2
          go_ret
          exact ⟨by rw [HP.out]; rfl, HB.out⟩
      · have hp := plI_none h1 h2 HS.out (by rw [List.getElem?_eq_none (by have := HN.out; omega)]; simp)
        have HP := Lib.hid hp
        obtain rfl : hi = n := by omega
        clear hp h1 h2 hlh hln
        go_wp2
        go_ret
        exact ⟨by rw [HP.out]; rfl, HB.out⟩
    | succ k =>
      obtain ⟨mid, hmid⟩ : ∃ mid, (lo + hi) / 2 = mid := ⟨_, rfl⟩
      have hm1 : lo ≤ mid := by omega
      have hm2 : mid < hi := by omega
      obtain ⟨x, hx⟩ : ∃ x, sl[mid]? = some x := ⟨_, List.getElem?_eq_getElem (by have := HN.out; omega)⟩
      obtain ⟨b, rfl, cx⟩ := (HV.out.below HB.out) mid x hx
      have hmono : ∀ (i j : Nat) (p q : Int), i ≤ j → sl[i]? = some p → sl[j]? = some q → p ≤ q := by
        intro i j p q hij hp hq
        obtain ⟨a1, a2⟩ := List.getElem?_eq_some_iff.1 hp
        obtain ⟨b1, b2⟩ := List.getElem?_eq_some_iff.1 hq
        rcases Nat.eq_or_lt_of_le hij with rfl | h
        · rw [hp] at hq; cases hq; exact Int.le_refl _
        · have := List.pairwise_iff_getElem.1 HS.out i j a1 b1 h; omega
      have l0 : (0 : Int) ≤ (lo : Int) := by omega
      have l1 : (lo : Int) < (hi : Int) := by omega
      have j0 : (0 : Int) ≤ (mid : Int) := by omega
      have j1 : (mid : Int) < (n : Int) := by omega
      have j2 : (n : Int) ≤ 1000000 := by omega
      have e2 : ((lo : Int) + (hi : Int)).tdiv 2 = (mid : Int) := by rw [Int.tdiv_eq_ediv_of_nonneg (by omega), ← hmid]; omega
      have e3 : ((lo : Int) + (hi : Int)) / 2 = (mid : Int) := by rw [← hmid]; omega
      have e1 : ∀ y : Int, y = (lo : Int) + (hi : Int) → wrap64 y = y := fun y hy => by subst hy; unfold wrap64; omega
      have HL := Lib.hid (show lo + (k + 1) = hi ∧ hi ≤ n ∧ lo ≤ mid ∧ mid < hi from ⟨hlh, hhn, hm1, hm2⟩)
      by_cases hxv : x < v
      · have H1 := Lib.hid (show ∀ (i : Nat) (p : Int), i < mid + 1 → sl[i]? = some p → p < v from fun i p hi' hp => by have := hmono i mid p x (by omega) hp hx; omega)
        have H2 := Lib.hid h2
        clear h1 h2 hmono hx hmid hm1 hm2 hlh hhn
        go_wp2
        go_roundg (hi - (mid + 1))
        case measure => have := HL.out; omega
        case rel => exact ⟨mid + 1, hi, by go_num, rfl, Lib.hid ⟨by have := HL.out; omega, HL.out.2.1, rfl, H1.out, H2.out⟩⟩
      · have H1 := Lib.hid h1
        have H2 := Lib.hid (show ∀ (i : Nat) (p : Int), mid ≤ i → sl[i]? = some p → v ≤ p from fun i p hi' hp => by have := hmono mid i x p hi' hx hp; omega)
        clear h1 h2 hmono hx hmid hm1 hm2 hlh hhn
        go_wp2
        go_roundg (mid - lo)
        case measure => have := HL.out; omega
        case rel => exact ⟨lo, mid, rfl, by go_num, Lib.hid ⟨by have := HL.out; omega, by have := HL.out; omega, rfl, H1.out, H2.out⟩⟩

end Go.Proofs.Ythomnpgpbhpojaa.Lw

/- The references' Error, walked. -/
namespace Go.Proofs.Ythomnpgpbhpojaa.Lw
open Go Go.RowKit Go.Proofs.Ythomnpgpbhpojaa.Mem Go.Proofs.Ythomnpgpbhpojaa.Sl Go.Proofs.Ythomnpgpbhpojaa.Scc Go.Proofs.Ythomnpgpbhpojaa.Tj Go.Proofs.YthomnpgpbhpojaaW.PrintWords Go.Proofs.YthomnpgpbhpojaaW.PrintLast
attribute [local go_sem ↓] Go.wp_at_zero Go.wp_at_succ
set_option linter.unusedSimpArgs false
set_option linter.unusedVariables false

theorem keep_at {w w' : World} {a : Addr} {v : Value} (hb : Below w.heap.size w w') (hc : w.cell? a = some v) : w'.cell? a = some v := (hb.cell (World.block_lt_of_cell? w _ hc)).trans hc

theorem plI_neg {sl : List Int} {v : Int} : plI sl v < 0 ↔ sl.contains v = false := by
  unfold plI
  split
  · rename_i h; rw [h]; simp
  · rename_i h; simp at h; simp [h]

theorem gen_loopw {P : Program} {c : Code} {Q : Exit → Act → World → Prop} {a : Act} {w : World} (I : World → Prop) (h : I w) (k : ∀ W, I W → Code.wp P c Q a W) : Code.wp P c Q a w := k w h


theorem Below.drewL {w w' : World} (h : Below w.drew.heap.size w.drew w') : Below w.heap.size w w' := ⟨h.os, h.tape, h.output, h.size, h.block⟩

end Go.Proofs.Ythomnpgpbhpojaa.Lw

/- The references' Graph, walked. -/
namespace Go.Proofs.Ythomnpgpbhpojaa.Lw
open Go Go.RowKit Go.Proofs.Ythomnpgpbhpojaa.Mem Go.Proofs.Ythomnpgpbhpojaa.Sl Go.Proofs.Ythomnpgpbhpojaa.Scc Go.Proofs.Ythomnpgpbhpojaa.Tj Go.Proofs.YthomnpgpbhpojaaW.PrintWords Go.Proofs.YthomnpgpbhpojaaW.PrintLast
attribute [local go_sem ↓] Go.wp_at_zero Go.wp_at_succ
set_option linter.unusedSimpArgs false
set_option linter.unusedVariables false

theorem info_edge : (Try.prog.info? 36).map (fun i => (i.zero, i.size, i.bytes)) = some (some (.agg #[.int .i64 0, .int .i64 0, .int .i64 0, .int .u32 0]), 4, 32) := by kernel_rfl

def RdE (w : World) (A : Option Addr) (l : List (Int × Int)) : Prop := ∀ (j : Nat) (u v : Int), l[j]? = some (u, v) → ∃ b, A = some ⟨b, 0, none⟩ ∧ w.cell? ⟨b, j * 4 + 1, none⟩ = some (.int .i64 u) ∧ w.cell? ⟨b, j * 4 + 2, none⟩ = some (.int .i64 v)
theorem RdE.below {w w' : World} {A : Option Addr} {l : List (Int × Int)} (h : RdE w A l) (hb : Below w.heap.size w w') : RdE w' A l := fun j u v hx => by
  obtain ⟨b, h1, h2, h3⟩ := h j u v hx
  exact ⟨b, h1, keep_at hb h2, keep_at hb h3⟩

def EdC (l : List (Int × Int)) (xs : List Value) : Prop := xs.length = l.length * 4 ∧ ∀ (j : Nat) (u v : Int), l[j]? = some (u, v) → xs[j * 4 + 1]? = some (.int .i64 u) ∧ xs[j * 4 + 2]? = some (.int .i64 v)
theorem EdC.nil : EdC [] [] := ⟨rfl, fun j u v h => by simp at h⟩
theorem EdC.snoc {l : List (Int × Int)} {xs : List Value} {u v : Int} {e f : Value} (h : EdC l xs) : EdC (l ++ [(u, v)]) (xs ++ [e, .int .i64 u, .int .i64 v, f]) := by
  refine ⟨by simp [h.1]; omega, fun j a b hx => ?_⟩
  have hl := h.1
  rcases Nat.lt_or_ge j l.length with hj | hj
  · rw [List.getElem?_append_left hj] at hx
    rw [List.getElem?_append_left (by omega), List.getElem?_append_left (by omega)]
    exact h.2 j a b hx
  · have hj2 : j = l.length := by
      have := (List.getElem?_eq_some_iff.1 hx).1
      simp at this
      omega
    subst hj2
    rw [List.getElem?_append_right (Nat.le_refl _), Nat.sub_self] at hx
    cases hx
    rw [List.getElem?_append_right (by omega), List.getElem?_append_right (by omega), show l.length * 4 + 1 - xs.length = 1 by omega, show l.length * 4 + 2 - xs.length = 2 by omega]
    exact ⟨rfl, rfl⟩

structure GS (w : World) (gx gb : Nat) (A : Option Addr) (n cg : Nat) (sl : List Int) (vE : Value) (l : List (Int × Int)) (W : World) : Prop where
  x : At W gx [.slice A n cg, vE, .int .i64 0, .int .i64 0] 28
  b : At W gb [.slice none 0 0, .slice none 0 0, .int .i64 0, .int .i64 0] 28
  ne : gx ≠ gb
  hx : w.heap.size ≤ gx
  hb : w.heap.size ≤ gb
  o : ∃ xs, EdC l xs ∧ Two w 3 1 (.slice A n cg) n (ints sl) 36 4 vE l.length xs W

section
variable {w W W' : World} {gx gb n cg : Nat} {A : Option Addr} {sl : List Int} {vE : Value} {l : List (Int × Int)}
theorem GS.below (h : GS w gx gb A n cg sl vE l W) (hb : Below W.heap.size W W') : GS w gx gb A n cg sl vE l W' := by
  obtain ⟨xs, h1, h2⟩ := h.o
  exact ⟨h.x.below hb h.x.lt, h.b.below hb h.b.lt, h.ne, h.hx, h.hb, xs, h1, h2.below hb⟩
end


end Go.Proofs.Ythomnpgpbhpojaa.Lw
