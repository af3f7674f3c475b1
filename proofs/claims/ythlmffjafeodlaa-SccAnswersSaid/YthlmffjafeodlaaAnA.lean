/- The references' Sorted, walked. -/
import Derived.Test.YthlmffjafeodlaaLw5
import Derived.Test.YthlmffjafeodlaaRing
namespace Go.Proofs.Ythlmffjafeodlaa.Lw
open Go Go.RowKit Go.Proofs.Ythlmffjafeodlaa.Mem Go.Proofs.Ythlmffjafeodlaa.Sl Go.Proofs.Ythlmffjafeodlaa.Scc Go.Proofs.Ythlmffjafeodlaa.Tj Go.Proofs.YthlmffjafeodlaaW.PrintWords Go.Proofs.YthlmffjafeodlaaW.PrintLast
attribute [local go_sem ↓] Go.wp_at_zero Go.wp_at_succ
set_option linter.unusedSimpArgs false
set_option linter.unusedVariables false

theorem ins_ok {old : List Int} {a : Int} {k : Nat} (hs : old.Pairwise (· ≤ ·)) (hlow : ∀ x ∈ old.take k, x ≤ a) (hhigh : ∀ x ∈ old.drop k, a < x) {t : List Int} (ht : t.Perm old) : sorted (t ++ [a]) = old.take k ++ a :: old.drop k := by
  refine sorted_of ?_ ?_
  · have h1 : (t ++ [a]).Perm (a :: old) := List.perm_append_comm.trans (ht.cons a)
    refine h1.trans ?_
    have h2 : (old.take k ++ a :: old.drop k).Perm (a :: (old.take k ++ old.drop k)) := List.perm_middle
    rw [List.take_append_drop] at h2
    exact h2.symm
  · rw [List.pairwise_append, List.pairwise_cons]
    have hs' := hs
    rw [← List.take_append_drop k old, List.pairwise_append] at hs'
    refine ⟨hs'.1, ⟨fun x hx => Int.le_of_lt (hhigh x hx), hs'.2.1⟩, fun x hx y hy => ?_⟩
    rcases List.mem_cons.1 hy with rfl | hy
    · exact hlow x hx
    · exact hs'.2.2 x hx y hy

theorem low_all {old : List Int} {a : Int} {k : Nat} (hs : old.Pairwise (· ≤ ·)) (hk : k < old.length) (h : old[k] ≤ a) : ∀ x ∈ old.take (k + 1), x ≤ a := by
  intro x hx
  obtain ⟨j, hj, rfl⟩ := List.mem_take_iff_getElem.1 hx
  rcases Nat.lt_or_ge j k with h1 | h1
  · have := List.pairwise_iff_getElem.1 hs j k (by omega) hk h1
    omega
  · obtain rfl : j = k := by omega
    exact h

theorem hole_at {old : List Int} {h : Int} {k : Nat} (hk : k < old.length) : (old.take (k + 1) ++ h :: old.drop (k + 1))[k]? = some old[k] := by
  rw [List.getElem?_append_left (by rw [List.length_take]; omega), List.getElem?_take, if_pos (by omega), List.getElem?_eq_getElem hk]
theorem hole_set {old : List Int} {h x : Int} {k : Nat} (hk : k ≤ old.length) : (old.take k ++ h :: old.drop k).set k x = old.take k ++ x :: old.drop k := by
  have hl : (old.take k).length = k := by rw [List.length_take]; omega
  rw [List.set_append, if_neg (by omega), hl, Nat.sub_self, List.set_cons_zero]
theorem hole_down {old : List Int} {k : Nat} (hk : k < old.length) : old.take (k + 1) ++ old[k] :: old.drop (k + 1) = old.take k ++ old[k] :: old.drop k := by
  rw [List.take_succ_eq_append_getElem hk, List.append_assoc, List.drop_eq_getElem_cons hk]
  rfl
theorem hole_length {old : List Int} {h : Int} {k : Nat} (hk : k ≤ old.length) : (old.take k ++ h :: old.drop k).length = old.length + 1 := by
  rw [List.length_append, List.length_cons, List.length_take, List.length_drop]
  omega

def tb28_7.T7 : Bool × List (List Nat × List Nat) := (true, [([], []), ([0], [0]), ([1], [1]), ([2], [2]), ([2], [2]), ([4, 2], [2, 4]), ([3, 5, 2], [2, 3, 5]), ([6, 2], [2, 6]), ([2], [2]), ([2], [2]), ([8, 9, 2], [2, 8, 9]), ([10, 2], [2, 10]), ([7, 11, 2], [2, 7, 11]), ([2, 12], [2, 12])])
def tb28_7.B7 : List Nat := [0, 1, 3, 7, 7, 23, 63, 127, 7, 7, 775, 1799, 4095, 8191]
theorem tb28_7.tab7 : rtab .any (opsOf Try.f28 7) = tb28_7.T7 := by kernel_rfl
theorem tb28_7.bits7 : waitsOk tb28_7.T7.2 tb28_7.B7 = true := by kernel_rfl
set_option maxHeartbeats 8000000 in
set_option maxRecDepth 100000 in
theorem sorted_calls (w : World) (A : Option Addr) (c : Nat) (l : List Int) (hv : RdI w A l) (hl : l.length ≤ 1000000) :
    Calls Try.prog 28 #[.slice A l.length c] w fun e w' => ∃ v, e = .returned v ∧ One w 3 1 v l.length (ints (sorted l)) w' := by
  obtain ⟨i1, hi1, hz1, hs1, hy1⟩ := info_parts info_int
  have HV := Lib.hid hv
  clear hv
  go_enter Try.func28, Try.ntmps28
  go_wp2
  go_loopg [3, 4, 5] l.length (fun kq v3 v4 v5 w' => ∃ i : Nat, v4 = .int .i64 (i : Int) ∧ Hid (i + kq = l.length ∧ One w 3 1 v3 i (ints (sorted (l.take i))) w'))
  case atStart => exact ⟨0, rfl, Lib.hid ⟨by omega, by rw [List.take_zero]; simp only [sorted, List.mergeSort_nil]; exact One.start⟩⟩
  case round =>
    obtain ⟨i, rfl, hI⟩ := hrel
    obtain ⟨hik, hO⟩ := hI.out
    clear hI
    by_cases hi : i < l.length
    · obtain ⟨k1, rfl⟩ : ∃ k1, gk = k1 + 1 := ⟨gk - 1, by omega⟩
      obtain ⟨a, ha⟩ : ∃ a, l[i]? = some a := ⟨_, List.getElem?_eq_getElem hi⟩
      obtain ⟨b, rfl, ca⟩ := (HV.out.below hO.b) i a ha
      obtain ⟨t, htk⟩ : ∃ t, l.take i = t := ⟨_, rfl⟩
      have htl : l.take (i + 1) = t ++ [a] := by rw [List.take_add_one, ha, htk]; rfl
      rw [htk] at hO
      have hop : t.Perm (sorted t) := (List.mergeSort_perm t _).symm
      obtain ⟨old, hold⟩ : ∃ old, sorted t = old := ⟨_, rfl⟩
      have hos : old.Pairwise (· ≤ ·) := hold ▸ sorted_rising t
      rw [hold] at hO hop
      have hon : old.length = i := by have := hO.r.1; rw [ints_length] at this; omega
      obtain ⟨A3, c3, rfl⟩ := own_slice hO.r
      have HO := Lib.hid hO
      have HX := Lib.hid ha
      have HTL := Lib.hid htl
      have HOP := Lib.hid hop
      have HOS := Lib.hid hos
      have HON := Lib.hid hon
      have HIK := Lib.hid hik
      have j0 : (0 : Int) ≤ (i : Int) := by omega
      have j1 : (i : Int) < (l.length : Int) := by omega
      have j2 : (l.length : Int) ≤ 1000000 := by omega
      clear hO ha htl hop hos hon hik hold htk hi
      go_wp2_with ((at_builtin; refine wpList_append_any rfl (.tmp 14) (.tmp 19) 22 rfl w.heap.size 3 i1 (.int .i64 0) 1 8 Try.underlying22 hi1 hz1 hs1 hy1 rfl (by omega) _ _ _ rfl (HO.out.r.alloc (.cells #[.int .i64 a] 3)) _ rfl 1 [.int .i64 a] (RdV.lit wr #[.int .i64 a] 3 1 1 1 rfl (by simp [Value.oneCell'])) (by unfold maxLen; omega) (by omega) (by have := HO.out.b.size; simp; omega) ?_; intro v3 w3 ho hg hn; have hone := (HO.out.below ((Below.refl _ _).alloc (Nat.le_refl _) (.cells #[.int .i64 a] 3))).grow ho hg; have HO3 := Lib.hid hone; clear ho hg hn hone HO))
      have hw3 := HO3.out.r
      obtain ⟨g, cg, rfl, hgb, _⟩ := hw3.form (by omega)
      have HGB := Lib.hid hgb
      clear hw3 hgb ca
      go_loopg [5] i (fun k v5 w' => v5 = .int .i64 (k : Int) ∧ Hid (k ≤ i ∧ ∃ h, One w 3 1 (.slice (some ⟨g, 0, none⟩) (i + 1) cg) (i + 1) (ints (old.take k ++ h :: old.drop k)) w' ∧ ∀ x ∈ old.drop k, a < x))
      case atStart => exact ⟨rfl, Lib.hid ⟨Nat.le_refl _, a, by rw [List.take_of_length_le (Nat.le_of_eq HON.out), List.drop_of_length_le (Nat.le_of_eq HON.out), ← ints_snoc]; exact HO3.out, by rw [List.drop_of_length_le (Nat.le_of_eq HON.out)]; simp⟩⟩
      case round =>
        clear HO3
        obtain ⟨rfl, hI⟩ := hrel
        obtain ⟨hkn, h, hO, hhi⟩ := hI.out
        clear hI
        have hon := HON.out
        cases gk with
        | zero =>
          have HHI := Lib.hid hhi
          have HO := Lib.hid (show One w 3 1 (.slice (some ⟨g, 0, none⟩) (i + 1) cg) (i + 1) (ints (old.take 0 ++ h :: old.drop 0)) wr.drew from ⟨hO.r.drew, hO.b.drew⟩)
          clear hO hhi
          go_upto_region 7 with (fail)
          refine start_ (n := 14) (S := fun w' => True) (ds := []) #[false, false, false, false, false, false, false, false, false, false, false, false, false, false] (by kernel_rfl) rfl rfl trivial (fun hHeld => ?_)
          refine with_tabW tb28_7.tab7 tb28_7.bits7 (fun HT_ HW_ => ?_)
          refine pure_ (i := 0) (N := some 21) (v := ?_) (a' := ?_) #[true, false, false, false, false, false, false, false, false, false, false, false, false, false] rfl rfl (any_of HT_.out (by kernel_rfl)) (fun _ _ _ h => h) (Or.inl ⟨by rfl, ?_⟩) ?_ ?_
          rotate_left
          · intro w'
            go_simp
            with_reducible rfl
          rotate_left
          · simp only [Act.put, List.setIfInBounds_toArray, List.set_cons_zero, List.set_cons_succ, i64_w, i32_w]
            rfl
          refine pure_ (i := 1) (N := some 22) (v := ?_) (a' := ?_) #[true, true, false, false, false, false, false, false, false, false, false, false, false, false] rfl rfl (any_of HT_.out (by kernel_rfl)) (fun _ _ _ h => h) (Or.inl ⟨by rfl, ?_⟩) ?_ ?_
          rotate_left
          · intro w'
            go_simp
            with_reducible rfl
          rotate_left
          · simp only [Act.put, List.setIfInBounds_toArray, List.set_cons_zero, List.set_cons_succ, i64_w, i32_w]
            rfl
          refine pure_ (i := 2) (N := some 23) (v := ?_) (a' := ?_) #[true, true, true, false, false, false, false, false, false, false, false, false, false, false] rfl rfl (any_of HT_.out (by kernel_rfl)) (fun _ _ _ h => h) (Or.inl ⟨by rfl, ?_⟩) ?_ ?_
          rotate_left
          · intro w'
            go_simp
            with_reducible rfl
          rotate_left
          · simp only [Act.put, List.setIfInBounds_toArray, List.set_cons_zero, List.set_cons_succ, i64_w, i32_w]
            rfl
          refine pure_ (i := 3) (N := some 24) (v := undef) (a' := ?_) #[true, true, true, true, false, false, false, false, false, false, false, false, false, false] rfl rfl (any_of HT_.out (by kernel_rfl)) (fun _ _ _ h => h) (Or.inr ⟨by rfl, rfl⟩) ?_ ?_
          rotate_left
          · simp only [Act.put, List.setIfInBounds_toArray, List.set_cons_zero, List.set_cons_succ, i64_w, i32_w]
            rfl
          refine pure_ (i := 4) (N := some 25) (v := undef) (a' := ?_) #[true, true, true, true, true, false, false, false, false, false, false, false, false, false] rfl rfl (any_of HT_.out (by kernel_rfl)) (fun _ _ _ h => h) (Or.inr ⟨by rfl, rfl⟩) ?_ ?_
          rotate_left
          · simp only [Act.put, List.setIfInBounds_toArray, List.set_cons_zero, List.set_cons_succ, i64_w, i32_w]
            rfl
          refine pure_ (i := 5) (N := some 26) (v := undef) (a' := ?_) #[true, true, true, true, true, true, false, false, false, false, false, false, false, false] rfl rfl (any_of HT_.out (by kernel_rfl)) (fun _ _ _ h => h) (Or.inr ⟨by rfl, rfl⟩) ?_ ?_
          rotate_left
          · simp only [Act.put, List.setIfInBounds_toArray, List.set_cons_zero, List.set_cons_succ, i64_w, i32_w]
            rfl
          refine pure_ (i := 6) (N := some 27) (v := undef) (a' := ?_) #[true, true, true, true, true, true, true, false, false, false, false, false, false, false] rfl rfl (any_of HT_.out (by kernel_rfl)) (fun _ _ _ h => h) (Or.inr ⟨by rfl, rfl⟩) ?_ ?_
          rotate_left
          · simp only [Act.put, List.setIfInBounds_toArray, List.set_cons_zero, List.set_cons_succ, i64_w, i32_w]
            rfl
          refine pure_ (i := 7) (N := some 28) (v := undef) (a' := ?_) #[true, true, true, true, true, true, true, true, false, false, false, false, false, false] rfl rfl (any_of HT_.out (by kernel_rfl)) (fun _ _ _ h => h) (Or.inr ⟨by rfl, rfl⟩) ?_ ?_
          rotate_left
          · simp only [Act.put, List.setIfInBounds_toArray, List.set_cons_zero, List.set_cons_succ, i64_w, i32_w]
            rfl
          refine pure_ (i := 8) (N := some 29) (v := undef) (a' := ?_) #[true, true, true, true, true, true, true, true, true, false, false, false, false, false] rfl rfl (any_of HT_.out (by kernel_rfl)) (fun _ _ _ h => h) (Or.inr ⟨by rfl, rfl⟩) ?_ ?_
          rotate_left
          · simp only [Act.put, List.setIfInBounds_toArray, List.set_cons_zero, List.set_cons_succ, i64_w, i32_w]
            rfl
          refine pure_ (i := 9) (N := some 30) (v := undef) (a' := ?_) #[true, true, true, true, true, true, true, true, true, true, false, false, false, false] rfl rfl (any_of HT_.out (by kernel_rfl)) (fun _ _ _ h => h) (Or.inr ⟨by rfl, rfl⟩) ?_ ?_
          rotate_left
          · simp only [Act.put, List.setIfInBounds_toArray, List.set_cons_zero, List.set_cons_succ, i64_w, i32_w]
            rfl
          refine pure_ (i := 10) (N := some 31) (v := undef) (a' := ?_) #[true, true, true, true, true, true, true, true, true, true, true, false, false, false] rfl rfl (any_of HT_.out (by kernel_rfl)) (fun _ _ _ h => h) (Or.inr ⟨by rfl, rfl⟩) ?_ ?_
          rotate_left
          · simp only [Act.put, List.setIfInBounds_toArray, List.set_cons_zero, List.set_cons_succ, i64_w, i32_w]
            rfl
          refine pure_ (i := 11) (N := some 32) (v := undef) (a' := ?_) #[true, true, true, true, true, true, true, true, true, true, true, true, false, false] rfl rfl (any_of HT_.out (by kernel_rfl)) (fun _ _ _ h => h) (Or.inr ⟨by rfl, rfl⟩) ?_ ?_
          rotate_left
          · simp only [Act.put, List.setIfInBounds_toArray, List.set_cons_zero, List.set_cons_succ, i64_w, i32_w]
            rfl
          refine pure_ (i := 12) (N := some 33) (v := undef) (a' := ?_) #[true, true, true, true, true, true, true, true, true, true, true, true, true, false] rfl rfl (any_of HT_.out (by kernel_rfl)) (fun _ _ _ h => h) (Or.inr ⟨by rfl, rfl⟩) ?_ ?_
          rotate_left
          · simp only [Act.put, List.setIfInBounds_toArray, List.set_cons_zero, List.set_cons_succ, i64_w, i32_w]
            rfl
          refine pure_ (i := 13) (N := some 34) (v := ?_) (a' := ?_) #[true, true, true, true, true, true, true, true, true, true, true, true, true, true] rfl rfl (any_of HT_.out (by kernel_rfl)) (fun _ _ _ h => h) (Or.inl ⟨by rfl, ?_⟩) ?_ ?_
          rotate_left
          · intro w'
            go_simp
            with_reducible rfl
          rotate_left
          · simp only [Act.put, List.setIfInBounds_toArray, List.set_cons_zero, List.set_cons_succ, i64_w, i32_w]
            rfl
          refine done_ (done_of HT_.out (by kernel_rfl)) ?_
          clear hHeld HT_ HW_
          obtain ⟨wz, hwz⟩ : ∃ wz, wr.drew = wz := ⟨_, rfl⟩
          rw [hwz] at HO ⊢
          clear hwz
          obtain ⟨x0, hx0⟩ : ∃ x0, (ints (old.take 0 ++ h :: old.drop 0))[0]? = some x0 := ⟨_, List.getElem?_eq_getElem (by rw [ints_length, hole_length (by omega)]; omega)⟩
          have hck : wz.cell? ⟨g, 0, none⟩ = some x0 := (HO.out.r.cellAt 0 (by omega)).trans hx0
          have hfr : wz.frozen? ⟨g, 0, none⟩ = false := HO.out.r.frozenAt 0
          have ca : wz.cell? ⟨b, i, none⟩ = some (.int .i64 a) := by
            obtain ⟨_, he, h3⟩ := (HV.out.below HO.out.b) i a HX.out
            cases he
            exact h3
          have hst := HO.out.r.stored 0 (.int .i64 a)
          rw [ints_set, hole_set (by omega)] at hst
          have hins := ins_ok (a := a) (k := 0) HOS.out (by simp) HHI.out HOP.out
          rw [← hins] at hst
          have hone : One w 3 1 (.slice (some ⟨g, 0, none⟩) (i + 1) cg) (i + 1) (ints (sorted (t ++ [a]))) (wz.setCell ⟨g, 0, none⟩ (.int .i64 a)) := ⟨hst.1, HO.out.b.setCell HGB.out _⟩
          have HN := Lib.hid hone
          clear hst hins hone HO hx0 HHI
          go_wp2_with fail
          go_roundg k1
          case measure => have := HIK.out; omega
          case rel => exact ⟨i + 1, by go_num, Lib.hid ⟨by have := HIK.out; omega, by rw [HTL.out]; exact HN.out⟩⟩
        | succ k =>
          obtain ⟨y, hy⟩ : ∃ y, old[k]? = some y := ⟨_, List.getElem?_eq_getElem (by omega)⟩
          obtain ⟨hkl, hye⟩ := List.getElem?_eq_some_iff.1 hy
          have cy := (hO.r.cellAt k (by omega)).trans (ints_at _ ((hole_at (h := h) hkl).trans (congrArg some hye)))
          obtain ⟨_, he, ca⟩ := (HV.out.below hO.b) i a HX.out
          cases he
          have k0 : (0 : Int) ≤ (k : Int) := by omega
          have k1' : (k : Int) < (i : Int) + 1 := by omega
          have k2' : (k : Int) + 1 < (i : Int) + 1 := by omega
          have e3 : decide ((0 : Int) < ((k + 1 : Nat) : Int)) = true := by rw [decide_eq_true_eq]; omega
          have e4 : ∀ x : Nat, x = k → wrap64 (x : Int) = (x : Int) := fun x hx => by subst hx; unfold wrap64; omega
          have HKN := Lib.hid hkn
          have HKL := Lib.hid hkl
          by_cases hya : a < y
          · have e5 : decide (a < y) = true := by rw [decide_eq_true_eq]; exact hya
            have hOz : One w 3 1 (.slice (some ⟨g, 0, none⟩) (i + 1) cg) (i + 1) (ints (old.take (k + 1) ++ h :: old.drop (k + 1))) wr.drew := ⟨hO.r.drew, hO.b.drew⟩
            obtain ⟨x0, hx0⟩ : ∃ x0, (ints (old.take (k + 1) ++ h :: old.drop (k + 1)))[k + 1]? = some x0 := ⟨_, List.getElem?_eq_getElem (by rw [ints_length, hole_length (by omega)]; omega)⟩
            have cyz : wr.drew.cell? ⟨g, k, none⟩ = some (.int .i64 y) := cy
            have hck := (hOz.r.cellAt (k + 1) (by omega)).trans hx0
            have hfr := hOz.r.frozenAt (k + 1)
            have hst := hOz.r.stored (k + 1) (.int .i64 y)
            rw [ints_set, hole_set (by omega)] at hst
            rw [show old.take (k + 1) ++ y :: old.drop (k + 1) = old.take k ++ y :: old.drop k by rw [← hye]; exact hole_down hkl] at hst
            have hone : One w 3 1 (.slice (some ⟨g, 0, none⟩) (i + 1) cg) (i + 1) (ints (old.take k ++ y :: old.drop k)) (wr.drew.setCell ⟨g, k + 1, none⟩ (.int .i64 y)) := ⟨hst.1, hOz.b.setCell HGB.out _⟩
            have HH := Lib.hid (show ∀ x ∈ old.drop k, a < x from fun x hx => by
              rw [List.drop_eq_getElem_cons hkl] at hx
              rcases List.mem_cons.1 hx with rfl | hx
              · rw [hye]; exact hya
              · exact hhi x hx)
            obtain ⟨wz, hwz⟩ : ∃ wz, wr.drew = wz := ⟨_, rfl⟩
            rw [hwz] at cyz hck hfr hone
            have HN := Lib.hid hone
            have HWZ := Lib.hid hwz
            clear hO hOz hst hone hhi hx0 hy hya hkl hye hkn hwz
            go_upto_region 7 with (fail)
            refine start_ (n := 14) (S := fun w' => w'.cell? ⟨g, k, none⟩ = some (.int .i64 y) ∧ w'.cell? ⟨b, i, none⟩ = some (.int .i64 a)) (ds := []) #[false, false, false, false, false, false, false, false, false, false, false, false, false, false] (by kernel_rfl) rfl rfl ⟨cy, ca⟩ (fun hHeld => ?_)
            refine with_tabW tb28_7.tab7 tb28_7.bits7 (fun HT_ HW_ => ?_)
            refine pure_ (i := 0) (N := some 21) (v := ?_) (a' := ?_) #[true, false, false, false, false, false, false, false, false, false, false, false, false, false] rfl rfl (any_of HT_.out (by kernel_rfl)) (fun _ _ _ h => h) (Or.inl ⟨by rfl, ?_⟩) ?_ ?_
            rotate_left
            · intro w'
              go_simp
              with_reducible rfl
            rotate_left
            · simp only [Act.put, List.setIfInBounds_toArray, List.set_cons_zero, List.set_cons_succ, i64_w, i32_w]
              rfl
            refine pure_ (i := 1) (N := some 22) (v := ?_) (a' := ?_) #[true, true, false, false, false, false, false, false, false, false, false, false, false, false] rfl rfl (any_of HT_.out (by kernel_rfl)) (fun _ _ _ h => h) (Or.inl ⟨by rfl, ?_⟩) ?_ ?_
            rotate_left
            · intro w'
              go_simp
              with_reducible rfl
            rotate_left
            · simp only [Act.put, List.setIfInBounds_toArray, List.set_cons_zero, List.set_cons_succ, i64_w, i32_w]
              rfl
            refine pure_ (i := 2) (N := some 23) (v := ?_) (a' := ?_) #[true, true, true, false, false, false, false, false, false, false, false, false, false, false] rfl rfl (any_of HT_.out (by kernel_rfl)) (fun _ _ _ h => h) (Or.inl ⟨by rfl, ?_⟩) ?_ ?_
            rotate_left
            · intro w'
              go_simp
              with_reducible rfl
            rotate_left
            · simp only [Act.put, List.setIfInBounds_toArray, List.set_cons_zero, List.set_cons_succ, i64_w, i32_w]
              rfl
            refine pure_ (i := 3) (N := some 24) (v := ?_) (a' := ?_) #[true, true, true, true, false, false, false, false, false, false, false, false, false, false] rfl rfl (any_of HT_.out (by kernel_rfl)) (fun _ _ _ h => h) (Or.inl ⟨by rfl, ?_⟩) ?_ ?_
            rotate_left
            · intro w'
              go_simp
              with_reducible rfl
            rotate_left
            · simp only [Act.put, List.setIfInBounds_toArray, List.set_cons_zero, List.set_cons_succ, i64_w, i32_w]
              rfl
            refine pure_ (i := 4) (N := some 25) (v := ?_) (a' := ?_) #[true, true, true, true, true, false, false, false, false, false, false, false, false, false] rfl rfl (any_of HT_.out (by kernel_rfl)) (fun _ _ _ h => h) (Or.inl ⟨by rfl, ?_⟩) ?_ ?_
            rotate_left
            · intro w'
              go_simp
              with_reducible rfl
            rotate_left
            · simp only [Act.put, List.setIfInBounds_toArray, List.set_cons_zero, List.set_cons_succ, i64_w, i32_w]
              rfl
            refine pure_ (i := 5) (N := some 26) (v := ?_) (a' := ?_) #[true, true, true, true, true, true, false, false, false, false, false, false, false, false] rfl rfl (any_of HT_.out (by kernel_rfl)) (fun _ _ _ h => h) (Or.inl ⟨by rfl, ?_⟩) ?_ ?_
            rotate_left
            · intro w'
              go_simp
              with_reducible rfl
            rotate_left
            · simp only [Act.put, List.setIfInBounds_toArray, List.set_cons_zero, List.set_cons_succ, i64_w, i32_w]
              rfl
            refine pure_ (i := 6) (N := some 27) (v := ?_) (a' := ?_) #[true, true, true, true, true, true, true, false, false, false, false, false, false, false] rfl rfl (any_of HT_.out (by kernel_rfl)) (fun _ _ _ h => h) (Or.inl ⟨by rfl, ?_⟩) ?_ ?_
            rotate_left
            · intro w'
              go_simp
              with_reducible rfl
            rotate_left
            · simp only [Act.put, List.setIfInBounds_toArray, List.set_cons_zero, List.set_cons_succ, i64_w, i32_w]
              rfl
            refine pure_ (i := 8) (N := some 29) (v := ?_) (a' := ?_) #[true, true, true, true, true, true, true, false, true, false, false, false, false, false] rfl rfl (any_of HT_.out (by kernel_rfl)) (fun _ _ _ h => h) (Or.inl ⟨by rfl, ?_⟩) ?_ ?_
            rotate_left
            · intro w'
              go_simp
              with_reducible rfl
            rotate_left
            · simp only [Act.put, List.setIfInBounds_toArray, List.set_cons_zero, List.set_cons_succ, i64_w, i32_w]
              rfl
            refine pure_ (i := 9) (N := some 30) (v := ?_) (a' := ?_) #[true, true, true, true, true, true, true, false, true, true, false, false, false, false] rfl rfl (any_of HT_.out (by kernel_rfl)) (fun _ _ _ h => h) (Or.inl ⟨by rfl, ?_⟩) ?_ ?_
            rotate_left
            · intro w'
              go_simp
              with_reducible rfl
            rotate_left
            · simp only [Act.put, List.setIfInBounds_toArray, List.set_cons_zero, List.set_cons_succ, i64_w, i32_w]
              rfl
            refine pure_ (i := 10) (N := some 31) (v := ?_) (a' := ?_) #[true, true, true, true, true, true, true, false, true, true, true, false, false, false] rfl rfl (any_of HT_.out (by kernel_rfl)) (fun _ _ _ h => h) (Or.inl ⟨by rfl, ?_⟩) ?_ ?_
            rotate_left
            · intro w'
              go_simp
              with_reducible rfl
            rotate_left
            · simp only [Act.put, List.setIfInBounds_toArray, List.set_cons_zero, List.set_cons_succ, i64_w, i32_w]
              rfl
            refine take_ (i := 7) (N := some 28) (v := ?_) (a' := ?_) #[true, true, true, true, true, true, true, true, true, true, true, false, false, false] rfl rfl (take_ofW HT_.out HW_.out (by kernel_rfl)) (fun _ _ _ h => h) (Or.inl ⟨by rfl, ?_⟩) hHeld ?_ ?_
            rotate_left
            · rintro w' ⟨s0, s1⟩
              go_simp
              with_reducible rfl
            rotate_left
            · simp only [Act.put, List.setIfInBounds_toArray, List.set_cons_zero, List.set_cons_succ, i64_w, i32_w]
              rfl
            refine take_ (i := 11) (N := some 32) (v := ?_) (a' := ?_) #[true, true, true, true, true, true, true, true, true, true, true, true, false, false] rfl rfl (take_ofW HT_.out HW_.out (by kernel_rfl)) (fun _ _ _ h => h) (Or.inl ⟨by rfl, ?_⟩) hHeld ?_ ?_
            rotate_left
            · rintro w' ⟨s0, s1⟩
              go_simp
              with_reducible rfl
            rotate_left
            · simp only [Act.put, List.setIfInBounds_toArray, List.set_cons_zero, List.set_cons_succ, i64_w, i32_w]
              rfl
            refine pure_ (i := 12) (N := some 33) (v := ?_) (a' := ?_) #[true, true, true, true, true, true, true, true, true, true, true, true, true, false] rfl rfl (any_of HT_.out (by kernel_rfl)) (fun _ _ _ h => h) (Or.inl ⟨by rfl, ?_⟩) ?_ ?_
            rotate_left
            · intro w'
              go_simp
              with_reducible rfl
            rotate_left
            · simp only [Act.put, List.setIfInBounds_toArray, List.set_cons_zero, List.set_cons_succ, i64_w, i32_w]
              rfl
            refine pure_ (i := 13) (N := some 34) (v := ?_) (a' := ?_) #[true, true, true, true, true, true, true, true, true, true, true, true, true, true] rfl rfl (any_of HT_.out (by kernel_rfl)) (fun _ _ _ h => h) (Or.inl ⟨by rfl, ?_⟩) ?_ ?_
            rotate_left
            · intro w'
              go_simp
              with_reducible rfl
            rotate_left
            · simp only [Act.put, List.setIfInBounds_toArray, List.set_cons_zero, List.set_cons_succ, i64_w, i32_w]
              rfl
            refine done_ (done_of HT_.out (by kernel_rfl)) ?_
            clear hHeld HT_ HW_
            rw [HWZ.out]
            clear cy ca HWZ
            go_wp2
            go_roundg k
            case measure => omega
            case rel => exact ⟨by go_num, Lib.hid ⟨by have := HKN.out; omega, y, HN.out, HH.out⟩⟩
          · have e5 : decide (a < y) = false := by rw [decide_eq_false_iff_not]; exact hya
            have HLOW := Lib.hid (low_all (a := a) HOS.out hkl (by rw [hye]; omega))
            have HHI := Lib.hid hhi
            have HO := Lib.hid (show One w 3 1 (.slice (some ⟨g, 0, none⟩) (i + 1) cg) (i + 1) (ints (old.take (k + 1) ++ h :: old.drop (k + 1))) wr.drew from ⟨hO.r.drew, hO.b.drew⟩)
            clear hO hhi hy hya hkl hye hkn
            go_upto_region 7 with (fail)
            refine start_ (n := 14) (S := fun w' => w'.cell? ⟨g, k, none⟩ = some (.int .i64 y) ∧ w'.cell? ⟨b, i, none⟩ = some (.int .i64 a)) (ds := []) #[false, false, false, false, false, false, false, false, false, false, false, false, false, false] (by kernel_rfl) rfl rfl ⟨cy, ca⟩ (fun hHeld => ?_)
            refine with_tabW tb28_7.tab7 tb28_7.bits7 (fun HT_ HW_ => ?_)
            refine pure_ (i := 0) (N := some 21) (v := ?_) (a' := ?_) #[true, false, false, false, false, false, false, false, false, false, false, false, false, false] rfl rfl (any_of HT_.out (by kernel_rfl)) (fun _ _ _ h => h) (Or.inl ⟨by rfl, ?_⟩) ?_ ?_
            rotate_left
            · intro w'
              go_simp
              with_reducible rfl
            rotate_left
            · simp only [Act.put, List.setIfInBounds_toArray, List.set_cons_zero, List.set_cons_succ, i64_w, i32_w]
              rfl
            refine pure_ (i := 1) (N := some 22) (v := ?_) (a' := ?_) #[true, true, false, false, false, false, false, false, false, false, false, false, false, false] rfl rfl (any_of HT_.out (by kernel_rfl)) (fun _ _ _ h => h) (Or.inl ⟨by rfl, ?_⟩) ?_ ?_
            rotate_left
            · intro w'
              go_simp
              with_reducible rfl
            rotate_left
            · simp only [Act.put, List.setIfInBounds_toArray, List.set_cons_zero, List.set_cons_succ, i64_w, i32_w]
              rfl
            refine pure_ (i := 2) (N := some 23) (v := ?_) (a' := ?_) #[true, true, true, false, false, false, false, false, false, false, false, false, false, false] rfl rfl (any_of HT_.out (by kernel_rfl)) (fun _ _ _ h => h) (Or.inl ⟨by rfl, ?_⟩) ?_ ?_
            rotate_left
            · intro w'
              go_simp
              with_reducible rfl
            rotate_left
            · simp only [Act.put, List.setIfInBounds_toArray, List.set_cons_zero, List.set_cons_succ, i64_w, i32_w]
              rfl
            refine pure_ (i := 3) (N := some 24) (v := ?_) (a' := ?_) #[true, true, true, true, false, false, false, false, false, false, false, false, false, false] rfl rfl (any_of HT_.out (by kernel_rfl)) (fun _ _ _ h => h) (Or.inl ⟨by rfl, ?_⟩) ?_ ?_
            rotate_left
            · intro w'
              go_simp
              with_reducible rfl
            rotate_left
            · simp only [Act.put, List.setIfInBounds_toArray, List.set_cons_zero, List.set_cons_succ, i64_w, i32_w]
              rfl
            refine pure_ (i := 4) (N := some 25) (v := ?_) (a' := ?_) #[true, true, true, true, true, false, false, false, false, false, false, false, false, false] rfl rfl (any_of HT_.out (by kernel_rfl)) (fun _ _ _ h => h) (Or.inl ⟨by rfl, ?_⟩) ?_ ?_
            rotate_left
            · intro w'
              go_simp
              with_reducible rfl
            rotate_left
            · simp only [Act.put, List.setIfInBounds_toArray, List.set_cons_zero, List.set_cons_succ, i64_w, i32_w]
              rfl
            refine pure_ (i := 5) (N := some 26) (v := ?_) (a' := ?_) #[true, true, true, true, true, true, false, false, false, false, false, false, false, false] rfl rfl (any_of HT_.out (by kernel_rfl)) (fun _ _ _ h => h) (Or.inl ⟨by rfl, ?_⟩) ?_ ?_
            rotate_left
            · intro w'
              go_simp
              with_reducible rfl
            rotate_left
            · simp only [Act.put, List.setIfInBounds_toArray, List.set_cons_zero, List.set_cons_succ, i64_w, i32_w]
              rfl
            refine pure_ (i := 6) (N := some 27) (v := ?_) (a' := ?_) #[true, true, true, true, true, true, true, false, false, false, false, false, false, false] rfl rfl (any_of HT_.out (by kernel_rfl)) (fun _ _ _ h => h) (Or.inl ⟨by rfl, ?_⟩) ?_ ?_
            rotate_left
            · intro w'
              go_simp
              with_reducible rfl
            rotate_left
            · simp only [Act.put, List.setIfInBounds_toArray, List.set_cons_zero, List.set_cons_succ, i64_w, i32_w]
              rfl
            refine pure_ (i := 8) (N := some 29) (v := ?_) (a' := ?_) #[true, true, true, true, true, true, true, false, true, false, false, false, false, false] rfl rfl (any_of HT_.out (by kernel_rfl)) (fun _ _ _ h => h) (Or.inl ⟨by rfl, ?_⟩) ?_ ?_
            rotate_left
            · intro w'
              go_simp
              with_reducible rfl
            rotate_left
            · simp only [Act.put, List.setIfInBounds_toArray, List.set_cons_zero, List.set_cons_succ, i64_w, i32_w]
              rfl
            refine pure_ (i := 9) (N := some 30) (v := ?_) (a' := ?_) #[true, true, true, true, true, true, true, false, true, true, false, false, false, false] rfl rfl (any_of HT_.out (by kernel_rfl)) (fun _ _ _ h => h) (Or.inl ⟨by rfl, ?_⟩) ?_ ?_
            rotate_left
            · intro w'
              go_simp
              with_reducible rfl
            rotate_left
            · simp only [Act.put, List.setIfInBounds_toArray, List.set_cons_zero, List.set_cons_succ, i64_w, i32_w]
              rfl
            refine pure_ (i := 10) (N := some 31) (v := ?_) (a' := ?_) #[true, true, true, true, true, true, true, false, true, true, true, false, false, false] rfl rfl (any_of HT_.out (by kernel_rfl)) (fun _ _ _ h => h) (Or.inl ⟨by rfl, ?_⟩) ?_ ?_
            rotate_left
            · intro w'
              go_simp
              with_reducible rfl
            rotate_left
            · simp only [Act.put, List.setIfInBounds_toArray, List.set_cons_zero, List.set_cons_succ, i64_w, i32_w]
              rfl
            refine take_ (i := 7) (N := some 28) (v := ?_) (a' := ?_) #[true, true, true, true, true, true, true, true, true, true, true, false, false, false] rfl rfl (take_ofW HT_.out HW_.out (by kernel_rfl)) (fun _ _ _ h => h) (Or.inl ⟨by rfl, ?_⟩) hHeld ?_ ?_
            rotate_left
            · rintro w' ⟨s0, s1⟩
              go_simp
              with_reducible rfl
            rotate_left
            · simp only [Act.put, List.setIfInBounds_toArray, List.set_cons_zero, List.set_cons_succ, i64_w, i32_w]
              rfl
            refine take_ (i := 11) (N := some 32) (v := ?_) (a' := ?_) #[true, true, true, true, true, true, true, true, true, true, true, true, false, false] rfl rfl (take_ofW HT_.out HW_.out (by kernel_rfl)) (fun _ _ _ h => h) (Or.inl ⟨by rfl, ?_⟩) hHeld ?_ ?_
            rotate_left
            · rintro w' ⟨s0, s1⟩
              go_simp
              with_reducible rfl
            rotate_left
            · simp only [Act.put, List.setIfInBounds_toArray, List.set_cons_zero, List.set_cons_succ, i64_w, i32_w]
              rfl
            refine pure_ (i := 12) (N := some 33) (v := ?_) (a' := ?_) #[true, true, true, true, true, true, true, true, true, true, true, true, true, false] rfl rfl (any_of HT_.out (by kernel_rfl)) (fun _ _ _ h => h) (Or.inl ⟨by rfl, ?_⟩) ?_ ?_
            rotate_left
            · intro w'
              go_simp
              with_reducible rfl
            rotate_left
            · simp only [Act.put, List.setIfInBounds_toArray, List.set_cons_zero, List.set_cons_succ, i64_w, i32_w]
              rfl
            refine pure_ (i := 13) (N := some 34) (v := ?_) (a' := ?_) #[true, true, true, true, true, true, true, true, true, true, true, true, true, true] rfl rfl (any_of HT_.out (by kernel_rfl)) (fun _ _ _ h => h) (Or.inl ⟨by rfl, ?_⟩) ?_ ?_
            rotate_left
            · intro w'
              go_simp
              with_reducible rfl
            rotate_left
            · simp only [Act.put, List.setIfInBounds_toArray, List.set_cons_zero, List.set_cons_succ, i64_w, i32_w]
              rfl
            refine done_ (done_of HT_.out (by kernel_rfl)) ?_
            clear hHeld HT_ HW_
            clear cy ca
            obtain ⟨wz, hwz⟩ : ∃ wz, wr.drew = wz := ⟨_, rfl⟩
            rw [hwz] at HO ⊢
            clear hwz
            have hkn := HKN.out
            obtain ⟨x0, hx0⟩ : ∃ x0, (ints (old.take (k + 1) ++ h :: old.drop (k + 1)))[(k + 1)]? = some x0 := ⟨_, List.getElem?_eq_getElem (by rw [ints_length, hole_length (by omega)]; omega)⟩
            have hck : wz.cell? ⟨g, (k + 1), none⟩ = some x0 := (HO.out.r.cellAt (k + 1) (by omega)).trans hx0
            have hfr : wz.frozen? ⟨g, (k + 1), none⟩ = false := HO.out.r.frozenAt (k + 1)
            have ca : wz.cell? ⟨b, i, none⟩ = some (.int .i64 a) := by
              obtain ⟨_, he, h3⟩ := (HV.out.below HO.out.b) i a HX.out
              cases he
              exact h3
            have hst := HO.out.r.stored (k + 1) (.int .i64 a)
            rw [ints_set, hole_set (by omega)] at hst
            have hins := ins_ok (a := a) (k := (k + 1)) HOS.out HLOW.out HHI.out HOP.out
            rw [← hins] at hst
            have hone : One w 3 1 (.slice (some ⟨g, 0, none⟩) (i + 1) cg) (i + 1) (ints (sorted (t ++ [a]))) (wz.setCell ⟨g, (k + 1), none⟩ (.int .i64 a)) := ⟨hst.1, HO.out.b.setCell HGB.out _⟩
            have HN := Lib.hid hone
            clear hst hins hone HO hx0 HHI
            go_wp2_with fail
            go_roundg k1
            case measure => have := HIK.out; omega
            case rel => exact ⟨i + 1, by go_num, Lib.hid ⟨by have := HIK.out; omega, by rw [HTL.out]; exact HN.out⟩⟩
    · obtain rfl : i = l.length := by omega
      rw [List.take_length] at hO
      have HO := Lib.hid hO
      clear hO hik hi
      go_wp2
      go_ret
      exact ⟨_, rfl, HO.out⟩

end Go.Proofs.Ythlmffjafeodlaa.Lw

/- The references' Place, walked. -/
namespace Go.Proofs.Ythlmffjafeodlaa.Lw
open Go Go.RowKit Go.Proofs.Ythlmffjafeodlaa.Mem Go.Proofs.Ythlmffjafeodlaa.Sl Go.Proofs.Ythlmffjafeodlaa.Scc Go.Proofs.Ythlmffjafeodlaa.Tj Go.Proofs.YthlmffjafeodlaaW.PrintWords Go.Proofs.YthlmffjafeodlaaW.PrintLast
attribute [local go_sem ↓] Go.wp_at_zero Go.wp_at_succ
set_option linter.unusedSimpArgs false
set_option linter.unusedVariables false

/-- The place of v, -1 if it is none of sl's. -/
def plI (sl : List Int) (v : Int) : Int := if sl.contains v = true then (place sl v : Int) else -1

theorem plI_at {sl : List Int} (hs : sl.Pairwise (· < ·)) {v : Int} {lo : Nat} (h : sl[lo]? = some v) : plI sl v = (lo : Int) := by
  obtain ⟨hl, he⟩ := List.getElem?_eq_some_iff.1 h
  unfold plI
  rw [if_pos (by simpa using List.mem_of_getElem? h), ← he, place_at sl lo hs hl]
theorem plI_none {sl : List Int} {v : Int} {lo : Nat} (h1 : ∀ (i : Nat) (x : Int), i < lo → sl[i]? = some x → x < v) (h2 : ∀ (i : Nat) (x : Int), lo ≤ i → sl[i]? = some x → v ≤ x) (hs : sl.Pairwise (· < ·)) (h3 : sl[lo]? ≠ some v) : plI sl v = -1 := by
  unfold plI
  rw [if_neg]
  intro hc
  have hm : v ∈ sl := by simpa using hc
  obtain ⟨j, hj, he⟩ := List.getElem_of_mem hm
  have hjs : sl[j]? = some v := by rw [List.getElem?_eq_getElem hj, he]
  rcases Nat.lt_trichotomy j lo with h | h | h
  · have := h1 j v h hjs; omega
  · subst h; exact h3 hjs
  · have hlo : lo < sl.length := by omega
    have h4 := h2 lo _ (Nat.le_refl _) (List.getElem?_eq_getElem hlo)
    have h5 := List.pairwise_iff_getElem.1 hs lo j hlo hj h
    omega

/-- A graph of the references, as a value. -/
def gV (A : Option Addr) (n c : Nat) (E : Value) : Value := .agg #[.slice A n c, E, .int .i64 0, .int .i64 0]


set_option maxHeartbeats 8000000 in
set_option maxRecDepth 100000 in
theorem place_calls (w : World) (A AE : Option Addr) (c m ce : Nat) (sl : List Int) (v : Int) (hv : RdI w A sl) (hs : sl.Pairwise (· < ·)) (hl : sl.length ≤ 1000000) :
    Calls Try.prog 29 #[gV A sl.length c (.slice AE m ce), .int .i64 v] w fun e w' => e = .returned (.int .i64 (plI sl v)) ∧ Below w.heap.size w w' := by
  obtain ⟨n, hn⟩ : ∃ n, sl.length = n := ⟨_, rfl⟩
  rw [hn] at hl ⊢
  have HV := Lib.hid hv
  have HS := Lib.hid hs
  have HN := Lib.hid hn
  clear hv hs hn
  unfold gV
  go_enter Try.func29, Try.ntmps29
  go_upto_region 1 with (fail)
  refine gen_world (fun W => At W w.heap.size [.slice A n c, .slice AE m ce, .int .i64 0, .int .i64 0] 44 ∧ Below w.heap.size w W) ?_ ?_
  · exact ⟨At.made rfl rfl, (Below.refl _ _).alloc (Nat.le_refl _) _⟩
  obtain ⟨gb, hgb⟩ : ∃ gb, w.heap.size = gb := ⟨_, rfl⟩
  rw [hgb]
  rintro W ⟨hat, hb⟩
  have cg := hat.cell 0 rfl
  have HAT := Lib.hid hat
  have HB := Lib.hid (hgb ▸ hb : Below w.heap.size w W)
  clear hat hb hgb
  refine start_ (n := 5) (S := fun w' => w'.cell? ⟨gb, 0, none⟩ = some (.slice A n c)) (ds := []) #[false, false, false, false, false] (by kernel_rfl) rfl rfl (cg) (fun hHeld => ?_)
  refine pure_ (i := 0) (N := some 8) (v := ?_) (a' := ?_) #[true, false, false, false, false] rfl rfl (by kernel_rfl) (fun _ _ _ h => h) (Or.inl ⟨by rfl, ?_⟩) ?_ ?_
  rotate_left
  · intro w'
    go_simp
    with_reducible rfl
  rotate_left
  · simp only [Act.put, List.setIfInBounds_toArray, List.set_cons_zero, List.set_cons_succ, i64_w, i32_w]
    rfl
  refine pure_ (i := 3) (N := some 5) (v := ?_) (a' := ?_) #[true, false, false, true, false] rfl rfl (by kernel_rfl) (fun _ _ _ h => h) (Or.inl ⟨by rfl, ?_⟩) ?_ ?_
  rotate_left
  · intro w'
    go_simp
    with_reducible rfl
  rotate_left
  · simp only [Act.put, List.setIfInBounds_toArray, List.set_cons_zero, List.set_cons_succ, i64_w, i32_w]
    rfl
  refine take_ (i := 1) (N := some 9) (v := ?_) (a' := ?_) #[true, true, false, true, false] rfl rfl (by kernel_rfl) (fun _ _ _ h => h) (Or.inl ⟨by rfl, ?_⟩) hHeld ?_ ?_
  rotate_left
  · intro w' s0
    go_simp
    with_reducible rfl
  rotate_left
  · simp only [Act.put, List.setIfInBounds_toArray, List.set_cons_zero, List.set_cons_succ, i64_w, i32_w]
    rfl
  refine pure_ (i := 2) (N := some 10) (v := ?_) (a' := ?_) #[true, true, true, true, false] rfl rfl (by kernel_rfl) (fun _ _ _ h => h) (Or.inl ⟨by rfl, ?_⟩) ?_ ?_
  rotate_left
  · intro w'
    go_simp
    with_reducible rfl
  rotate_left
  · simp only [Act.put, List.setIfInBounds_toArray, List.set_cons_zero, List.set_cons_succ, i64_w, i32_w]
    rfl
  refine pure_ (i := 4) (N := some 6) (v := ?_) (a' := ?_) #[true, true, true, true, true] rfl rfl (by kernel_rfl) (fun _ _ _ h => h) (Or.inl ⟨by rfl, ?_⟩) ?_ ?_
  rotate_left
  · intro w'
    go_simp
    with_reducible rfl
  rotate_left
  · simp only [Act.put, List.setIfInBounds_toArray, List.set_cons_zero, List.set_cons_succ, i64_w, i32_w]
    rfl
  refine done_ (by kernel_rfl) ?_
  clear hHeld
  clear cg
  refine gen_then (fun W => At W gb [.slice A n c, .slice AE m ce, .int .i64 0, .int .i64 0] 44 ∧ Below w.heap.size w W) ?_ ?_
  · exact ⟨HAT.out.drew, HB.out.drew⟩
  clear HAT HB
  rintro W0 ⟨hat, hb⟩
  have cg := hat.cell 0 rfl
  have HB := Lib.hid hb
  clear hat hb
  go_wp2
  go_loopg [5, 6] n (fun kq v5 v6 w' => ∃ lo hi : Nat, v5 = .int .i64 (lo : Int) ∧ v6 = .int .i64 (hi : Int) ∧ Hid (lo + kq = hi ∧ hi ≤ n ∧ w' = W0 ∧ (∀ (i : Nat) (x : Int), i < lo → sl[i]? = some x → x < v) ∧ ∀ (i : Nat) (x : Int), hi ≤ i → sl[i]? = some x → v ≤ x))
  case atStart => exact ⟨0, n, rfl, rfl, Lib.hid ⟨by omega, Nat.le_refl _, rfl, fun i x h => by omega, fun i x h hx => by have := (List.getElem?_eq_some_iff.1 hx).1; have := HN.out; omega⟩⟩
  case round =>
    obtain ⟨lo, hi, rfl, rfl, hI⟩ := hrel
    obtain ⟨hlh, hhn, hw, h1, h2⟩ := hI.out
    subst hw
    clear hI
    cases gk with
    | zero =>
      obtain rfl : hi = lo := by omega
      by_cases hln : hi < n
      · obtain ⟨x, hx⟩ : ∃ x, sl[hi]? = some x := ⟨_, List.getElem?_eq_getElem (by have := HN.out; omega)⟩
        obtain ⟨b, rfl, cx⟩ := (HV.out.below HB.out) hi x hx
        have j0 : (0 : Int) ≤ (hi : Int) := by omega
        have j1 : (hi : Int) < (n : Int) := by omega
        have j2 : (n : Int) ≤ 1000000 := by omega
        by_cases hxv : x = v
        · subst hxv
          have hp := plI_at HS.out hx
          have HP := Lib.hid hp
          clear hp hx h1 h2 hlh hln
          go_wp2
          go_ret
          exact ⟨by rw [HP.out]; rfl, HB.out⟩
        · have hp := plI_none h1 h2 HS.out (by rw [hx]; simpa using hxv)
          have HP := Lib.hid hp
          have e1 : (x == v) = false := beq_eq_false_iff_ne.2 hxv
          clear hp hx h1 h2 hlh hln hxv
          go_wp2
          go_ret
          exact ⟨by rw [HP.out]; rfl, HB.out⟩
      · have hp := plI_none h1 h2 HS.out (by rw [List.getElem?_eq_none (by have := HN.out; omega)]; simp)
        have HP := Lib.hid hp
        obtain rfl : hi = n := by omega
        clear hp h1 h2 hlh hln
        go_wp2
        go_ret
        exact ⟨by rw [HP.out]; rfl, HB.out⟩
    | succ k =>
      obtain ⟨mid, hmid⟩ : ∃ mid, (lo + hi) / 2 = mid := ⟨_, rfl⟩
      have hm1 : lo ≤ mid := by omega
      have hm2 : mid < hi := by omega
      obtain ⟨x, hx⟩ : ∃ x, sl[mid]? = some x := ⟨_, List.getElem?_eq_getElem (by have := HN.out; omega)⟩
      obtain ⟨b, rfl, cx⟩ := (HV.out.below HB.out) mid x hx
      have hmono : ∀ (i j : Nat) (p q : Int), i ≤ j → sl[i]? = some p → sl[j]? = some q → p ≤ q := by
        intro i j p q hij hp hq
        obtain ⟨a1, a2⟩ := List.getElem?_eq_some_iff.1 hp
        obtain ⟨b1, b2⟩ := List.getElem?_eq_some_iff.1 hq
        rcases Nat.eq_or_lt_of_le hij with rfl | h
        · rw [hp] at hq; cases hq; exact Int.le_refl _
        · have := List.pairwise_iff_getElem.1 HS.out i j a1 b1 h; omega
      have l0 : (0 : Int) ≤ (lo : Int) := by omega
      have l1 : (lo : Int) < (hi : Int) := by omega
      have j0 : (0 : Int) ≤ (mid : Int) := by omega
      have j1 : (mid : Int) < (n : Int) := by omega
      have j2 : (n : Int) ≤ 1000000 := by omega
      have e2 : ((lo : Int) + (hi : Int)).tdiv 2 = (mid : Int) := by rw [Int.tdiv_eq_ediv_of_nonneg (by omega), ← hmid]; omega
      have e3 : ((lo : Int) + (hi : Int)) / 2 = (mid : Int) := by rw [← hmid]; omega
      have e1 : ∀ y : Int, y = (lo : Int) + (hi : Int) → wrap64 y = y := fun y hy => by subst hy; unfold wrap64; omega
      have HL := Lib.hid (show lo + (k + 1) = hi ∧ hi ≤ n ∧ lo ≤ mid ∧ mid < hi from ⟨hlh, hhn, hm1, hm2⟩)
      by_cases hxv : x < v
      · have H1 := Lib.hid (show ∀ (i : Nat) (p : Int), i < mid + 1 → sl[i]? = some p → p < v from fun i p hi' hp => by have := hmono i mid p x (by omega) hp hx; omega)
        have H2 := Lib.hid h2
        clear h1 h2 hmono hx hmid hm1 hm2 hlh hhn
        go_wp2
        go_roundg (hi - (mid + 1))
        case measure => have := HL.out; omega
        case rel => exact ⟨mid + 1, hi, by go_num, rfl, Lib.hid ⟨by have := HL.out; omega, HL.out.2.1, rfl, H1.out, H2.out⟩⟩
      · have H1 := Lib.hid h1
        have H2 := Lib.hid (show ∀ (i : Nat) (p : Int), mid ≤ i → sl[i]? = some p → v ≤ p from fun i p hi' hp => by have := hmono mid i x p hi' hx hp; omega)
        clear h1 h2 hmono hx hmid hm1 hm2 hlh hhn
        go_wp2
        go_roundg (mid - lo)
        case measure => have := HL.out; omega
        case rel => exact ⟨lo, mid, rfl, by go_num, Lib.hid ⟨by have := HL.out; omega, by have := HL.out; omega, rfl, H1.out, H2.out⟩⟩

end Go.Proofs.Ythlmffjafeodlaa.Lw

/- The references' Error, walked. -/
namespace Go.Proofs.Ythlmffjafeodlaa.Lw
open Go Go.RowKit Go.Proofs.Ythlmffjafeodlaa.Mem Go.Proofs.Ythlmffjafeodlaa.Sl Go.Proofs.Ythlmffjafeodlaa.Scc Go.Proofs.Ythlmffjafeodlaa.Tj Go.Proofs.YthlmffjafeodlaaW.PrintWords Go.Proofs.YthlmffjafeodlaaW.PrintLast
attribute [local go_sem ↓] Go.wp_at_zero Go.wp_at_succ
set_option linter.unusedSimpArgs false
set_option linter.unusedVariables false

theorem keep_at {w w' : World} {a : Addr} {v : Value} (hb : Below w.heap.size w w') (hc : w.cell? a = some v) : w'.cell? a = some v := (hb.cell (World.block_lt_of_cell? w _ hc)).trans hc

theorem rising_of {sl : List Int} (hs : sl.Pairwise (· ≤ ·)) (h : ∀ (i : Nat) (x y : Int), sl[i]? = some x → sl[i + 1]? = some y → y ≠ x) : sl.Nodup := by
  rw [List.nodup_iff_pairwise_ne, List.pairwise_iff_getElem]
  intro i j hi hj hij he
  have h1 := h i _ _ (List.getElem?_eq_getElem hi) (List.getElem?_eq_getElem (by omega))
  have h2 := List.pairwise_iff_getElem.1 hs i (i + 1) hi (by omega) (by omega)
  rcases Nat.eq_or_lt_of_le (show i + 1 ≤ j by omega) with h3 | h3
  · subst h3; exact h1 he.symm
  · have := List.pairwise_iff_getElem.1 hs (i + 1) j (by omega) hj h3
    omega
theorem twice_of {sl : List Int} {i : Nat} {x : Int} (h1 : sl[i]? = some x) (h2 : sl[i + 1]? = some x) : ¬ sl.Nodup := by
  intro h
  rw [List.nodup_iff_pairwise_ne, List.pairwise_iff_getElem] at h
  obtain ⟨a, b⟩ := List.getElem?_eq_some_iff.1 h1
  obtain ⟨c, d⟩ := List.getElem?_eq_some_iff.1 h2
  exact h i (i + 1) a c (by omega) (b.trans d.symm)

theorem plI_neg {sl : List Int} {v : Int} : plI sl v < 0 ↔ sl.contains v = false := by
  unfold plI
  split
  · rename_i h; rw [h]; simp
  · rename_i h; simp at h; simp [h]

theorem gen_loopw {P : Program} {c : Code} {Q : Exit → Act → World → Prop} {a : Act} {w : World} (I : World → Prop) (h : I w) (k : ∀ W, I W → Code.wp P c Q a W) : Code.wp P c Q a w := k w h

def tb16_5.T5 : Bool × List (List Nat × List Nat) := (true, [([], []), ([], []), ([0, 1], [0, 1]), ([2], [2]), ([], []), ([], []), ([5], [5]), ([4, 6], [4, 6]), ([7], [7]), ([3, 8], [3, 8])])
def tb16_5.B5 : List Nat := [0, 0, 3, 7, 0, 0, 32, 112, 240, 511]
theorem tb16_5.tab5 : rtab .any (opsOf Try.f16 5) = tb16_5.T5 := by kernel_rfl
theorem tb16_5.bits5 : waitsOk tb16_5.T5.2 tb16_5.B5 = true := by kernel_rfl
def tb16_11.T11 : Bool × List (List Nat × List Nat) := (true, [([], []), ([], []), ([], []), ([1, 2], [1, 2]), ([3], [3]), ([4], [4]), ([0, 5], [0, 5]), ([6], [6]), ([7, 6], [7]), ([8], [8]), ([8], [8]), ([8], [8]), ([10, 11, 8], [8, 10, 11]), ([12, 8], [8, 12]), ([13, 8], [8, 13]), ([9, 14, 8, 8], [8, 9, 14]), ([15, 8], [8, 15]), ([8, 16], [8, 16])])
def tb16_11.B11 : List Nat := [0, 0, 0, 6, 14, 30, 63, 127, 255, 511, 511, 511, 3583, 7679, 15871, 32767, 65535, 131071]
theorem tb16_11.tab11 : rtab .any (opsOf Try.f16 11) = tb16_11.T11 := by kernel_rfl
theorem tb16_11.bits11 : waitsOk tb16_11.T11.2 tb16_11.B11 = true := by kernel_rfl
theorem Below.drewL {w w' : World} (h : Below w.drew.heap.size w.drew w') : Below w.heap.size w w' := ⟨h.os, h.tape, h.output, h.size, h.block⟩

set_option maxHeartbeats 8000000 in
set_option maxRecDepth 100000 in
theorem error_calls (w : World) (A1 A2 : Option Addr) (c1 c2 : Nat) (L : List Int) (R : List (Int × Int)) (hv : RdI w A1 L) (ha : RdA w A2 R) (hl : L.length ≤ 100000) (hr : R.length ≤ 100000) :
    Calls Try.prog 16 #[.slice A1 L.length c1, .slice A2 R.length c2] w fun e w' => e = .returned (.int .i64 ((codeV (sorted L) R : Nat) : Int)) ∧ Below w.heap.size w w' := by
  have HS := Lib.hid (sorted_calls w A1 c1 L hv (by omega))
  have HA := Lib.hid ha
  obtain ⟨code, hcode⟩ : ∃ code, codeV (sorted L) R = code := ⟨_, rfl⟩
  rw [hcode]
  have hrs := sorted_rising L
  have hsl := sorted_length L
  obtain ⟨sl, hsle⟩ : ∃ sl, sorted L = sl := ⟨_, rfl⟩
  rw [hsle] at hrs HS hsl hcode
  have HCD := Lib.hid hcode
  clear hv ha hcode hsle
  go_enter Try.func16, Try.ntmps16
  go_wp2_with fail
  refine HS.out.mono ?_
  clear HS
  rintro e w1 ⟨v5, rfl, hO⟩
  obtain ⟨n, hn⟩ : ∃ n, L.length = n := ⟨_, rfl⟩
  rw [hn] at hO hsl hl
  obtain ⟨A5, cg, rfl⟩ := own_slice hO.r
  have HO := Lib.hid hO
  have HR := Lib.hid hrs
  have HN := Lib.hid hsl
  clear hO hrs hsl hn
  go_wp2_with fail
  go_loopg [6] n (fun kq v6 w' => ∃ i : Nat, v6 = .int .i64 ((i + 1 : Nat) : Int) ∧ Hid (i + kq = n ∧ (∃ q, w' = w1.drewN q) ∧ ∀ (j : Nat) (x y : Int), j < i → sl[j]? = some x → sl[j + 1]? = some y → y ≠ x))
  case atStart => exact ⟨0, rfl, Lib.hid ⟨by omega, ⟨0, rfl⟩, fun j x y h => by omega⟩⟩
  case round =>
    obtain ⟨i, rfl, hI⟩ := hrel
    obtain ⟨hik, ⟨q, rfl⟩, hne⟩ := hI.out
    clear hI
    by_cases hi : i + 1 < n
    · obtain ⟨k1, rfl⟩ : ∃ k1, gk = k1 + 1 := ⟨gk - 1, by omega⟩
      obtain ⟨x, hx⟩ : ∃ x, sl[i]? = some x := ⟨_, List.getElem?_eq_getElem (by have := HN.out; omega)⟩
      obtain ⟨y, hy⟩ : ∃ y, sl[i + 1]? = some y := ⟨_, List.getElem?_eq_getElem (by have := HN.out; omega)⟩
      obtain ⟨g, cap, hge, _, _⟩ := HO.out.r.form (by omega)
      cases hge
      have cx : (w1.drewN q).cell? ⟨g, i, none⟩ = some (.int .i64 x) := (HO.out.r.cellAt i (by omega)).trans (ints_at sl hx)
      have cy : (w1.drewN q).cell? ⟨g, i + 1, none⟩ = some (.int .i64 y) := (HO.out.r.cellAt (i + 1) (by omega)).trans (ints_at sl hy)
      have j0 : (0 : Int) ≤ (i : Int) := by omega
      have j1 : (i : Int) + 1 < (n : Int) := by omega
      have j5 : (0 : Int) ≤ (i : Int) + 1 := by omega
      have j3 : (i : Int) < (n : Int) := by omega
      have j2 : (n : Int) ≤ 100000 := by omega
      have e4 : ∀ z : Nat, z = i → wrap64 (z : Int) = (z : Int) := fun z hz => by subst hz; unfold wrap64; omega
      have HIK := Lib.hid hik
      by_cases hxy : y = x
      · subst hxy
        have hnd := twice_of hx hy
        have HC := Lib.hid (show code = 2 by rw [← HCD.out]; unfold codeV; rw [if_neg hnd])
        clear hnd hx hy hne hik hi
        go_upto_region 5 with (fail)
        refine start_ (n := 10) (S := fun w' => w'.cell? ⟨g, i + 1, none⟩ = some (.int .i64 y) ∧ w'.cell? ⟨g, i, none⟩ = some (.int .i64 y)) (ds := []) #[false, false, false, false, false, false, false, false, false, false] (by kernel_rfl) rfl rfl ⟨cy, cx⟩ (fun hHeld => ?_)
        refine with_tabW tb16_5.tab5 tb16_5.bits5 (fun HT_ HW_ => ?_)
        refine pure_ (i := 0) (N := some 17) (v := ?_) (a' := ?_) #[true, false, false, false, false, false, false, false, false, false] rfl rfl (any_of HT_.out (by kernel_rfl)) (fun _ _ _ h => h) (Or.inl ⟨by rfl, ?_⟩) ?_ ?_
        rotate_left
        · intro w'
          go_simp
          with_reducible rfl
        rotate_left
        · simp only [Act.put, List.setIfInBounds_toArray, List.set_cons_zero, List.set_cons_succ, i64_w, i32_w]
          rfl
        refine pure_ (i := 1) (N := some 18) (v := ?_) (a' := ?_) #[true, true, false, false, false, false, false, false, false, false] rfl rfl (any_of HT_.out (by kernel_rfl)) (fun _ _ _ h => h) (Or.inl ⟨by rfl, ?_⟩) ?_ ?_
        rotate_left
        · intro w'
          go_simp
          with_reducible rfl
        rotate_left
        · simp only [Act.put, List.setIfInBounds_toArray, List.set_cons_zero, List.set_cons_succ, i64_w, i32_w]
          rfl
        refine pure_ (i := 2) (N := some 19) (v := ?_) (a' := ?_) #[true, true, true, false, false, false, false, false, false, false] rfl rfl (any_of HT_.out (by kernel_rfl)) (fun _ _ _ h => h) (Or.inl ⟨by rfl, ?_⟩) ?_ ?_
        rotate_left
        · intro w'
          go_simp
          with_reducible rfl
        rotate_left
        · simp only [Act.put, List.setIfInBounds_toArray, List.set_cons_zero, List.set_cons_succ, i64_w, i32_w]
          rfl
        refine pure_ (i := 4) (N := some 21) (v := ?_) (a' := ?_) #[true, true, true, false, true, false, false, false, false, false] rfl rfl (any_of HT_.out (by kernel_rfl)) (fun _ _ _ h => h) (Or.inl ⟨by rfl, ?_⟩) ?_ ?_
        rotate_left
        · intro w'
          go_simp
          with_reducible rfl
        rotate_left
        · simp only [Act.put, List.setIfInBounds_toArray, List.set_cons_zero, List.set_cons_succ, i64_w, i32_w]
          rfl
        refine pure_ (i := 5) (N := some 22) (v := ?_) (a' := ?_) #[true, true, true, false, true, true, false, false, false, false] rfl rfl (any_of HT_.out (by kernel_rfl)) (fun _ _ _ h => h) (Or.inl ⟨by rfl, ?_⟩) ?_ ?_
        rotate_left
        · intro w'
          go_simp
          with_reducible rfl
        rotate_left
        · simp only [Act.put, List.setIfInBounds_toArray, List.set_cons_zero, List.set_cons_succ, i64_w, i32_w]
          rfl
        refine pure_ (i := 6) (N := some 23) (v := ?_) (a' := ?_) #[true, true, true, false, true, true, true, false, false, false] rfl rfl (any_of HT_.out (by kernel_rfl)) (fun _ _ _ h => h) (Or.inl ⟨by rfl, ?_⟩) ?_ ?_
        rotate_left
        · intro w'
          go_simp
          with_reducible rfl
        rotate_left
        · simp only [Act.put, List.setIfInBounds_toArray, List.set_cons_zero, List.set_cons_succ, i64_w, i32_w]
          rfl
        refine pure_ (i := 7) (N := some 24) (v := ?_) (a' := ?_) #[true, true, true, false, true, true, true, true, false, false] rfl rfl (any_of HT_.out (by kernel_rfl)) (fun _ _ _ h => h) (Or.inl ⟨by rfl, ?_⟩) ?_ ?_
        rotate_left
        · intro w'
          go_simp
          with_reducible rfl
        rotate_left
        · simp only [Act.put, List.setIfInBounds_toArray, List.set_cons_zero, List.set_cons_succ, i64_w, i32_w]
          rfl
        refine take_ (i := 3) (N := some 20) (v := ?_) (a' := ?_) #[true, true, true, true, true, true, true, true, false, false] rfl rfl (take_ofW HT_.out HW_.out (by kernel_rfl)) (fun _ _ _ h => h) (Or.inl ⟨by rfl, ?_⟩) hHeld ?_ ?_
        rotate_left
        · rintro w' ⟨s0, s1⟩
          go_simp
          with_reducible rfl
        rotate_left
        · simp only [Act.put, List.setIfInBounds_toArray, List.set_cons_zero, List.set_cons_succ, i64_w, i32_w]
          rfl
        refine take_ (i := 8) (N := some 25) (v := ?_) (a' := ?_) #[true, true, true, true, true, true, true, true, true, false] rfl rfl (take_ofW HT_.out HW_.out (by kernel_rfl)) (fun _ _ _ h => h) (Or.inl ⟨by rfl, ?_⟩) hHeld ?_ ?_
        rotate_left
        · rintro w' ⟨s0, s1⟩
          go_simp
          with_reducible rfl
        rotate_left
        · simp only [Act.put, List.setIfInBounds_toArray, List.set_cons_zero, List.set_cons_succ, i64_w, i32_w]
          rfl
        refine pure_ (i := 9) (N := some 26) (v := ?_) (a' := ?_) #[true, true, true, true, true, true, true, true, true, true] rfl rfl (any_of HT_.out (by kernel_rfl)) (fun _ _ _ h => h) (Or.inl ⟨by rfl, ?_⟩) ?_ ?_
        rotate_left
        · intro w'
          go_simp
          with_reducible rfl
        rotate_left
        · simp only [Act.put, List.setIfInBounds_toArray, List.set_cons_zero, List.set_cons_succ, i64_w, i32_w]
          rfl
        refine done_ (done_of HT_.out (by kernel_rfl)) ?_
        clear hHeld HT_ HW_
        go_wp2
        go_ret
        have hb := HO.out.b
        exact ⟨by rw [HC.out]; rfl, ⟨hb.os, hb.tape, hb.output, hb.size, hb.block⟩⟩
      · have e1 : (y == x) = false := beq_eq_false_iff_ne.2 hxy
        have HNE := Lib.hid (show ∀ (j : Nat) (p q : Int), j < i + 1 → sl[j]? = some p → sl[j + 1]? = some q → q ≠ p from fun j p q hj hp hq => by
          rcases Nat.lt_or_ge j i with h | h
          · exact hne j p q h hp hq
          · obtain rfl : j = i := by omega
            rw [hx] at hp
            rw [hy] at hq
            cases hp
            cases hq
            exact hxy)
        clear hx hy hne hik hi hxy
        go_upto_region 5 with (fail)
        refine start_ (n := 10) (S := fun w' => w'.cell? ⟨g, i + 1, none⟩ = some (.int .i64 y) ∧ w'.cell? ⟨g, i, none⟩ = some (.int .i64 x)) (ds := []) #[false, false, false, false, false, false, false, false, false, false] (by kernel_rfl) rfl rfl ⟨cy, cx⟩ (fun hHeld => ?_)
        refine with_tabW tb16_5.tab5 tb16_5.bits5 (fun HT_ HW_ => ?_)
        refine pure_ (i := 0) (N := some 17) (v := ?_) (a' := ?_) #[true, false, false, false, false, false, false, false, false, false] rfl rfl (any_of HT_.out (by kernel_rfl)) (fun _ _ _ h => h) (Or.inl ⟨by rfl, ?_⟩) ?_ ?_
        rotate_left
        · intro w'
          go_simp
          with_reducible rfl
        rotate_left
        · simp only [Act.put, List.setIfInBounds_toArray, List.set_cons_zero, List.set_cons_succ, i64_w, i32_w]
          rfl
        refine pure_ (i := 1) (N := some 18) (v := ?_) (a' := ?_) #[true, true, false, false, false, false, false, false, false, false] rfl rfl (any_of HT_.out (by kernel_rfl)) (fun _ _ _ h => h) (Or.inl ⟨by rfl, ?_⟩) ?_ ?_
        rotate_left
        · intro w'
          go_simp
          with_reducible rfl
        rotate_left
        · simp only [Act.put, List.setIfInBounds_toArray, List.set_cons_zero, List.set_cons_succ, i64_w, i32_w]
          rfl
        refine pure_ (i := 2) (N := some 19) (v := ?_) (a' := ?_) #[true, true, true, false, false, false, false, false, false, false] rfl rfl (any_of HT_.out (by kernel_rfl)) (fun _ _ _ h => h) (Or.inl ⟨by rfl, ?_⟩) ?_ ?_
        rotate_left
        · intro w'
          go_simp
          with_reducible rfl
        rotate_left
        · simp only [Act.put, List.setIfInBounds_toArray, List.set_cons_zero, List.set_cons_succ, i64_w, i32_w]
          rfl
        refine pure_ (i := 4) (N := some 21) (v := ?_) (a' := ?_) #[true, true, true, false, true, false, false, false, false, false] rfl rfl (any_of HT_.out (by kernel_rfl)) (fun _ _ _ h => h) (Or.inl ⟨by rfl, ?_⟩) ?_ ?_
        rotate_left
        · intro w'
          go_simp
          with_reducible rfl
        rotate_left
        · simp only [Act.put, List.setIfInBounds_toArray, List.set_cons_zero, List.set_cons_succ, i64_w, i32_w]
          rfl
        refine pure_ (i := 5) (N := some 22) (v := ?_) (a' := ?_) #[true, true, true, false, true, true, false, false, false, false] rfl rfl (any_of HT_.out (by kernel_rfl)) (fun _ _ _ h => h) (Or.inl ⟨by rfl, ?_⟩) ?_ ?_
        rotate_left
        · intro w'
          go_simp
          with_reducible rfl
        rotate_left
        · simp only [Act.put, List.setIfInBounds_toArray, List.set_cons_zero, List.set_cons_succ, i64_w, i32_w]
          rfl
        refine pure_ (i := 6) (N := some 23) (v := ?_) (a' := ?_) #[true, true, true, false, true, true, true, false, false, false] rfl rfl (any_of HT_.out (by kernel_rfl)) (fun _ _ _ h => h) (Or.inl ⟨by rfl, ?_⟩) ?_ ?_
        rotate_left
        · intro w'
          go_simp
          with_reducible rfl
        rotate_left
        · simp only [Act.put, List.setIfInBounds_toArray, List.set_cons_zero, List.set_cons_succ, i64_w, i32_w]
          rfl
        refine pure_ (i := 7) (N := some 24) (v := ?_) (a' := ?_) #[true, true, true, false, true, true, true, true, false, false] rfl rfl (any_of HT_.out (by kernel_rfl)) (fun _ _ _ h => h) (Or.inl ⟨by rfl, ?_⟩) ?_ ?_
        rotate_left
        · intro w'
          go_simp
          with_reducible rfl
        rotate_left
        · simp only [Act.put, List.setIfInBounds_toArray, List.set_cons_zero, List.set_cons_succ, i64_w, i32_w]
          rfl
        refine take_ (i := 3) (N := some 20) (v := ?_) (a' := ?_) #[true, true, true, true, true, true, true, true, false, false] rfl rfl (take_ofW HT_.out HW_.out (by kernel_rfl)) (fun _ _ _ h => h) (Or.inl ⟨by rfl, ?_⟩) hHeld ?_ ?_
        rotate_left
        · rintro w' ⟨s0, s1⟩
          go_simp
          with_reducible rfl
        rotate_left
        · simp only [Act.put, List.setIfInBounds_toArray, List.set_cons_zero, List.set_cons_succ, i64_w, i32_w]
          rfl
        refine take_ (i := 8) (N := some 25) (v := ?_) (a' := ?_) #[true, true, true, true, true, true, true, true, true, false] rfl rfl (take_ofW HT_.out HW_.out (by kernel_rfl)) (fun _ _ _ h => h) (Or.inl ⟨by rfl, ?_⟩) hHeld ?_ ?_
        rotate_left
        · rintro w' ⟨s0, s1⟩
          go_simp
          with_reducible rfl
        rotate_left
        · simp only [Act.put, List.setIfInBounds_toArray, List.set_cons_zero, List.set_cons_succ, i64_w, i32_w]
          rfl
        refine pure_ (i := 9) (N := some 26) (v := ?_) (a' := ?_) #[true, true, true, true, true, true, true, true, true, true] rfl rfl (any_of HT_.out (by kernel_rfl)) (fun _ _ _ h => h) (Or.inl ⟨by rfl, ?_⟩) ?_ ?_
        rotate_left
        · intro w'
          go_simp
          with_reducible rfl
        rotate_left
        · simp only [Act.put, List.setIfInBounds_toArray, List.set_cons_zero, List.set_cons_succ, i64_w, i32_w]
          rfl
        refine done_ (done_of HT_.out (by kernel_rfl)) ?_
        clear hHeld HT_ HW_
        clear cx cy
        go_wp2
        go_roundg k1
        case measure => have := HIK.out; omega
        case rel => exact ⟨i + 1, by go_num, Lib.hid ⟨by have := HIK.out; omega, ⟨q + 1, rfl⟩, HNE.out⟩⟩
    · have hnd : sl.Nodup := rising_of HR.out fun j x y hx hy => hne j x y (by have := (List.getElem?_eq_some_iff.1 hy).1; have := HN.out; omega) hx hy
      have HND := Lib.hid hnd
      have HO2 := Lib.hid (show One w 3 1 (.slice A5 n cg) n (ints sl) (w1.drewN q) from ⟨HO.out.r, ⟨HO.out.b.os, HO.out.b.tape, HO.out.b.output, HO.out.b.size, HO.out.b.block⟩⟩)
      obtain ⟨w2, hw2⟩ : ∃ w2, w1.drewN q = w2 := ⟨_, rfl⟩
      rw [hw2] at HO2 ⊢
      have j1 : decide ((i : Int) + 1 < (n : Int)) = false := by rw [decide_eq_false_iff_not]; omega
      have hb02 : Below w1.heap.size w1 w2 := by rw [← hw2]; exact ⟨rfl, rfl, rfl, Nat.le_refl _, fun _ _ => rfl⟩
      have HA2 := Lib.hid ((HA.out.below HO.out.b).below hb02)
      clear hnd hne hik HO HA hw2 hb02 hi
      go_wp2_with fail
      clear j1
      refine gen_loopw (fun W => At W w2.heap.size [.slice A5 n cg, .slice none 0 0, .int .i64 0, .int .i64 0] 44 ∧ RdI W A5 sl ∧ RdA W A2 R ∧ Below w.heap.size w W) ?_ ?_
      · have hal := (Below.refl w2.heap.size w2).alloc (Nat.le_refl _) (.cells #[.slice A5 n cg, .slice none 0 0, .int .i64 0, .int .i64 0] 44)
        exact ⟨At.made rfl rfl, (RdI.of_own HO2.out.r).1.below hal, HA2.out.below hal, HO2.out.b.trans (hal.mono HO2.out.b.size)⟩
      clear HO2 HA2
      obtain ⟨gb, hgb⟩ : ∃ gb, w2.heap.size = gb := ⟨_, rfl⟩
      rw [hgb]
      clear hgb
      rintro w3 ⟨hat, hri, hra, hb3⟩
      have HAT := Lib.hid hat
      have HRI := Lib.hid hri
      have HRA := Lib.hid hra
      have HB3 := Lib.hid hb3
      clear hat hri hra hb3
      go_loopg [8] R.length (fun kq v8 w' => ∃ j : Nat, v8 = .int .i64 (j : Int) ∧ Hid (j + kq = R.length ∧ Below w3.heap.size w3 w' ∧ ∀ p ∈ R.take j, sl.contains p.1 = true ∧ sl.contains p.2 = true))
      case atStart => exact ⟨0, rfl, Lib.hid ⟨by omega, Below.refl _ _, fun p hp => by simp at hp⟩⟩
      case round =>
        obtain ⟨j, rfl, hI⟩ := hrel
        obtain ⟨hjk, hb, hgood⟩ := hI.out
        clear hI
        by_cases hj : j < R.length
        · obtain ⟨k1, rfl⟩ : ∃ k1, gk = k1 + 1 := ⟨gk - 1, by omega⟩
          obtain ⟨⟨u, v⟩, hxx⟩ : ∃ x, R[j] = x := ⟨_, rfl⟩
          have hx : R[j]? = some (u, v) := by rw [List.getElem?_eq_getElem hj, hxx]
          obtain ⟨b2, rfl, qu, qv⟩ := (HRA.out.below hb) j u v hx
          have q0 := keep_at hb (HAT.out.cell 0 rfl)
          have q1 := keep_at hb (HAT.out.cell 1 rfl)
          have q2 := keep_at hb (HAT.out.cell 2 rfl)
          have q3 := keep_at hb (HAT.out.cell 3 rfl)
          have hC : ∀ (x : Int) (W : World), Below wr.heap.size wr W → Calls Try.prog 29 #[.agg #[.slice A5 n cg, .slice none 0 0, .int .i64 0, .int .i64 0], .int .i64 x] W fun e w' => e = .returned (.int .i64 (plI sl x)) ∧ Below W.heap.size W w' := fun x W hW => by
            have := place_calls W A5 none cg 0 0 sl x ((HRI.out.below hb).below hW) (lt_of_nodup HR.out HND.out) (by rw [HN.out]; omega)
            rw [HN.out] at this
            exact this
          have HCU := Lib.hid (hC u)
          have HCV := Lib.hid (hC v)
          have j0 : (0 : Int) ≤ (j : Int) := by omega
          have j1 : (j : Int) < (R.length : Int) := by omega
          have j2 : (R.length : Int) ≤ 100000 := by omega
          have HJK := Lib.hid hjk
          have HBW := Lib.hid hb
          have hm : (u, v) ∈ R := List.mem_of_getElem? hx
          by_cases hu : plI sl u < 0
          · have e1 : decide (plI sl u < 0) = true := by rw [decide_eq_true_eq]; exact hu
            have HC := Lib.hid (show code = 5 by
              rw [← HCD.out]
              unfold codeV
              rw [if_pos HND.out, if_neg]
              intro hg
              have := (good_iff.1 hg _ hm).1
              rw [plI_neg.1 hu] at this
              cases this)
            clear hC hjk hb hgood hx hxx hm hu hj
            go_upto_region 11 with (fail)
            refine start_ (n := 18) (S := fun w' => w'.cell? ⟨gb, 0, none⟩ = some (.slice A5 n cg) ∧ w'.cell? ⟨gb, 1, none⟩ = some (.slice none 0 0) ∧ w'.cell? ⟨gb, 2, none⟩ = some (.int .i64 0) ∧ w'.cell? ⟨gb, 3, none⟩ = some (.int .i64 0) ∧ w'.cell? ⟨b2, j * 2, none⟩ = some (.int .i64 u) ∧ w'.cell? ⟨b2, j * 2 + 1, none⟩ = some (.int .i64 v)) (ds := []) #[false, false, false, false, false, false, false, false, false, false, false, false, false, false, false, false, false, false] (by kernel_rfl) rfl rfl ⟨q0, q1, q2, q3, qu, qv⟩ (fun hHeld => ?_)
            refine with_tabW tb16_11.tab11 tb16_11.bits11 (fun HT_ HW_ => ?_)
            refine pure_ (i := 1) (N := some 36) (v := ?_) (a' := ?_) #[false, true, false, false, false, false, false, false, false, false, false, false, false, false, false, false, false, false] rfl rfl (any_of HT_.out (by kernel_rfl)) (fun _ _ _ h => h) (Or.inl ⟨by rfl, ?_⟩) ?_ ?_
            rotate_left
            · intro w'
              go_simp
              with_reducible rfl
            rotate_left
            · simp only [Act.put, List.setIfInBounds_toArray, List.set_cons_zero, List.set_cons_succ, i64_w, i32_w]
              rfl
            refine pure_ (i := 2) (N := some 37) (v := ?_) (a' := ?_) #[false, true, true, false, false, false, false, false, false, false, false, false, false, false, false, false, false, false] rfl rfl (any_of HT_.out (by kernel_rfl)) (fun _ _ _ h => h) (Or.inl ⟨by rfl, ?_⟩) ?_ ?_
            rotate_left
            · intro w'
              go_simp
              with_reducible rfl
            rotate_left
            · simp only [Act.put, List.setIfInBounds_toArray, List.set_cons_zero, List.set_cons_succ, i64_w, i32_w]
              rfl
            refine pure_ (i := 3) (N := some 38) (v := ?_) (a' := ?_) #[false, true, true, true, false, false, false, false, false, false, false, false, false, false, false, false, false, false] rfl rfl (any_of HT_.out (by kernel_rfl)) (fun _ _ _ h => h) (Or.inl ⟨by rfl, ?_⟩) ?_ ?_
            rotate_left
            · intro w'
              go_simp
              with_reducible rfl
            rotate_left
            · simp only [Act.put, List.setIfInBounds_toArray, List.set_cons_zero, List.set_cons_succ, i64_w, i32_w]
              rfl
            refine pure_ (i := 4) (N := some 39) (v := ?_) (a' := ?_) #[false, true, true, true, true, false, false, false, false, false, false, false, false, false, false, false, false, false] rfl rfl (any_of HT_.out (by kernel_rfl)) (fun _ _ _ h => h) (Or.inl ⟨by rfl, ?_⟩) ?_ ?_
            rotate_left
            · intro w'
              go_simp
              with_reducible rfl
            rotate_left
            · simp only [Act.put, List.setIfInBounds_toArray, List.set_cons_zero, List.set_cons_succ, i64_w, i32_w]
              rfl
            refine take_ (i := 0) (N := some 35) (v := ?_) (a' := ?_) #[true, true, true, true, true, false, false, false, false, false, false, false, false, false, false, false, false, false] rfl rfl (take_ofW HT_.out HW_.out (by kernel_rfl)) (fun _ _ _ h => h) (Or.inl ⟨by rfl, ?_⟩) hHeld ?_ ?_
            rotate_left
            · rintro w' ⟨s0, s1, s2, s3, s4, s5⟩
              go_simp
              with_reducible rfl
            rotate_left
            · simp only [Act.put, List.setIfInBounds_toArray, List.set_cons_zero, List.set_cons_succ, i64_w, i32_w]
              rfl
            refine take_ (i := 5) (N := some 40) (v := ?_) (a' := ?_) #[true, true, true, true, true, true, false, false, false, false, false, false, false, false, false, false, false, false] rfl rfl (take_ofW HT_.out HW_.out (by kernel_rfl)) (fun _ _ _ h => h) (Or.inl ⟨by rfl, ?_⟩) hHeld ?_ ?_
            rotate_left
            · rintro w' ⟨s0, s1, s2, s3, s4, s5⟩
              go_simp
              with_reducible rfl
            rotate_left
            · simp only [Act.put, List.setIfInBounds_toArray, List.set_cons_zero, List.set_cons_succ, i64_w, i32_w]
              rfl
            refine one_ (i := 6) (N := some 41) #[true, true, true, true, true, true, true, false, false, false, false, false, false, false, false, false, false, false] rfl rfl (one_of HT_.out (by kernel_rfl)) (by decide) (fun K hK => ?_)
            refine goes_ Try.func29 (by kernel_rfl) rfl #[.agg #[.slice A5 n cg, .slice none 0 0, .int .i64 0, .int .i64 0], .int .i64 u] (by rfl) rfl rfl (by simp only [List.map_toArray, List.map_cons, List.map_nil]; rfl) ?_
            with_reducible refine ((HCU.out wr.drew (Below.refl _ _).drew)).mono ?_
            rintro e wa ⟨rfl, hb_wa⟩
            refine ⟨_, rfl, ?_⟩
            refine hK.out _ _ ⟨(keep_at hb_wa (show (wr.drew).cell? _ = _ from q0)), (keep_at hb_wa (show (wr.drew).cell? _ = _ from q1)), (keep_at hb_wa (show (wr.drew).cell? _ = _ from q2)), (keep_at hb_wa (show (wr.drew).cell? _ = _ from q3)), (keep_at hb_wa (show (wr.drew).cell? _ = _ from qu)), (keep_at hb_wa (show (wr.drew).cell? _ = _ from qv))⟩ (fun hHeld => ?_)
            clear hK K
            refine norm_ (a' := ?_) ?_ ?_
            rotate_left
            · show Act.put _ (some 41) _ = _
              simp only [Act.put, List.setIfInBounds_toArray, List.set_cons_zero, List.set_cons_succ, i64_w, i32_w]
              rfl
            refine pure_ (i := 7) (N := some 42) (v := ?_) (a' := ?_) #[true, true, true, true, true, true, true, true, false, false, false, false, false, false, false, false, false, false] rfl rfl (any_of HT_.out (by kernel_rfl)) (fun _ _ _ h => h) (Or.inl ⟨by rfl, ?_⟩) ?_ ?_
            rotate_left
            · intro w'
              go_simp
              with_reducible rfl
            rotate_left
            · simp only [Act.put, List.setIfInBounds_toArray, List.set_cons_zero, List.set_cons_succ, i64_w, i32_w]
              rfl
            refine pure_ (i := 8) (N := some 43) (v := ?_) (a' := ?_) #[true, true, true, true, true, true, true, true, true, false, false, false, false, false, false, false, false, false] rfl rfl (any_of HT_.out (by kernel_rfl)) (fun _ _ _ h => h) (Or.inl ⟨by rfl, ?_⟩) ?_ ?_
            rotate_left
            · intro w'
              go_simp
              with_reducible rfl
            rotate_left
            · simp only [Act.put, List.setIfInBounds_toArray, List.set_cons_zero, List.set_cons_succ, i64_w, i32_w]
              rfl
            refine pure_ (i := 9) (N := some 44) (v := undef) (a' := ?_) #[true, true, true, true, true, true, true, true, true, true, false, false, false, false, false, false, false, false] rfl rfl (any_of HT_.out (by kernel_rfl)) (fun _ _ _ h => h) (Or.inr ⟨by rfl, rfl⟩) ?_ ?_
            rotate_left
            · simp only [Act.put, List.setIfInBounds_toArray, List.set_cons_zero, List.set_cons_succ, i64_w, i32_w]
              rfl
            refine pure_ (i := 10) (N := some 45) (v := undef) (a' := ?_) #[true, true, true, true, true, true, true, true, true, true, true, false, false, false, false, false, false, false] rfl rfl (any_of HT_.out (by kernel_rfl)) (fun _ _ _ h => h) (Or.inr ⟨by rfl, rfl⟩) ?_ ?_
            rotate_left
            · simp only [Act.put, List.setIfInBounds_toArray, List.set_cons_zero, List.set_cons_succ, i64_w, i32_w]
              rfl
            refine pure_ (i := 11) (N := some 46) (v := undef) (a' := ?_) #[true, true, true, true, true, true, true, true, true, true, true, true, false, false, false, false, false, false] rfl rfl (any_of HT_.out (by kernel_rfl)) (fun _ _ _ h => h) (Or.inr ⟨by rfl, rfl⟩) ?_ ?_
            rotate_left
            · simp only [Act.put, List.setIfInBounds_toArray, List.set_cons_zero, List.set_cons_succ, i64_w, i32_w]
              rfl
            refine pure_ (i := 12) (N := some 47) (v := undef) (a' := ?_) #[true, true, true, true, true, true, true, true, true, true, true, true, true, false, false, false, false, false] rfl rfl (any_of HT_.out (by kernel_rfl)) (fun _ _ _ h => h) (Or.inr ⟨by rfl, rfl⟩) ?_ ?_
            rotate_left
            · simp only [Act.put, List.setIfInBounds_toArray, List.set_cons_zero, List.set_cons_succ, i64_w, i32_w]
              rfl
            refine pure_ (i := 13) (N := some 48) (v := undef) (a' := ?_) #[true, true, true, true, true, true, true, true, true, true, true, true, true, true, false, false, false, false] rfl rfl (any_of HT_.out (by kernel_rfl)) (fun _ _ _ h => h) (Or.inr ⟨by rfl, rfl⟩) ?_ ?_
            rotate_left
            · simp only [Act.put, List.setIfInBounds_toArray, List.set_cons_zero, List.set_cons_succ, i64_w, i32_w]
              rfl
            refine pure_ (i := 14) (N := some 49) (v := undef) (a' := ?_) #[true, true, true, true, true, true, true, true, true, true, true, true, true, true, true, false, false, false] rfl rfl (any_of HT_.out (by kernel_rfl)) (fun _ _ _ h => h) (Or.inr ⟨by rfl, rfl⟩) ?_ ?_
            rotate_left
            · simp only [Act.put, List.setIfInBounds_toArray, List.set_cons_zero, List.set_cons_succ, i64_w, i32_w]
              rfl
            refine pure_ (i := 15) (N := some 50) (v := undef) (a' := ?_) #[true, true, true, true, true, true, true, true, true, true, true, true, true, true, true, true, false, false] rfl rfl (any_of HT_.out (by kernel_rfl)) (fun _ _ _ h => h) (Or.inr ⟨by rfl, rfl⟩) ?_ ?_
            rotate_left
            · simp only [Act.put, List.setIfInBounds_toArray, List.set_cons_zero, List.set_cons_succ, i64_w, i32_w]
              rfl
            refine pure_ (i := 16) (N := some 51) (v := undef) (a' := ?_) #[true, true, true, true, true, true, true, true, true, true, true, true, true, true, true, true, true, false] rfl rfl (any_of HT_.out (by kernel_rfl)) (fun _ _ _ h => h) (Or.inr ⟨by rfl, rfl⟩) ?_ ?_
            rotate_left
            · simp only [Act.put, List.setIfInBounds_toArray, List.set_cons_zero, List.set_cons_succ, i64_w, i32_w]
              rfl
            refine pure_ (i := 17) (N := some 52) (v := ?_) (a' := ?_) #[true, true, true, true, true, true, true, true, true, true, true, true, true, true, true, true, true, true] rfl rfl (any_of HT_.out (by kernel_rfl)) (fun _ _ _ h => h) (Or.inl ⟨by rfl, ?_⟩) ?_ ?_
            rotate_left
            · intro w'
              go_simp
              with_reducible rfl
            rotate_left
            · simp only [Act.put, List.setIfInBounds_toArray, List.set_cons_zero, List.set_cons_succ, i64_w, i32_w]
              rfl
            refine done_ (done_of HT_.out (by kernel_rfl)) ?_
            clear hHeld HT_ HW_
            go_wp2
            go_ret
            exact ⟨by rw [HC.out]; rfl, (HB3.out.trans (HBW.out.mono HB3.out.size)).trans ((Below.drewL hb_wa).mono (Nat.le_trans HB3.out.size HBW.out.size))⟩
          · have e1 : decide (plI sl u < 0) = false := by rw [decide_eq_false_iff_not]; exact hu
            have hcu : sl.contains u = true := by
              cases h : sl.contains u with
              | true => rfl
              | false => exact absurd (plI_neg.2 h) hu
            by_cases hv : plI sl v < 0
            · have e2 : decide (plI sl v < 0) = true := by rw [decide_eq_true_eq]; exact hv
              have HC := Lib.hid (show code = 5 by
                rw [← HCD.out]
                unfold codeV
                rw [if_pos HND.out, if_neg]
                intro hg
                have := (good_iff.1 hg _ hm).2
                rw [plI_neg.1 hv] at this
                cases this)
              clear hC hjk hb hgood hx hxx hm hu hv hcu hj
              go_upto_region 11 with (fail)
              refine start_ (n := 18) (S := fun w' => w'.cell? ⟨gb, 0, none⟩ = some (.slice A5 n cg) ∧ w'.cell? ⟨gb, 1, none⟩ = some (.slice none 0 0) ∧ w'.cell? ⟨gb, 2, none⟩ = some (.int .i64 0) ∧ w'.cell? ⟨gb, 3, none⟩ = some (.int .i64 0) ∧ w'.cell? ⟨b2, j * 2, none⟩ = some (.int .i64 u) ∧ w'.cell? ⟨b2, j * 2 + 1, none⟩ = some (.int .i64 v)) (ds := []) #[false, false, false, false, false, false, false, false, false, false, false, false, false, false, false, false, false, false] (by kernel_rfl) rfl rfl ⟨q0, q1, q2, q3, qu, qv⟩ (fun hHeld => ?_)
              refine with_tabW tb16_11.tab11 tb16_11.bits11 (fun HT_ HW_ => ?_)
              refine pure_ (i := 1) (N := some 36) (v := ?_) (a' := ?_) #[false, true, false, false, false, false, false, false, false, false, false, false, false, false, false, false, false, false] rfl rfl (any_of HT_.out (by kernel_rfl)) (fun _ _ _ h => h) (Or.inl ⟨by rfl, ?_⟩) ?_ ?_
              rotate_left
              · intro w'
                go_simp
                with_reducible rfl
              rotate_left
              · simp only [Act.put, List.setIfInBounds_toArray, List.set_cons_zero, List.set_cons_succ, i64_w, i32_w]
                rfl
              refine pure_ (i := 2) (N := some 37) (v := ?_) (a' := ?_) #[false, true, true, false, false, false, false, false, false, false, false, false, false, false, false, false, false, false] rfl rfl (any_of HT_.out (by kernel_rfl)) (fun _ _ _ h => h) (Or.inl ⟨by rfl, ?_⟩) ?_ ?_
              rotate_left
              · intro w'
                go_simp
                with_reducible rfl
              rotate_left
              · simp only [Act.put, List.setIfInBounds_toArray, List.set_cons_zero, List.set_cons_succ, i64_w, i32_w]
                rfl
              refine pure_ (i := 3) (N := some 38) (v := ?_) (a' := ?_) #[false, true, true, true, false, false, false, false, false, false, false, false, false, false, false, false, false, false] rfl rfl (any_of HT_.out (by kernel_rfl)) (fun _ _ _ h => h) (Or.inl ⟨by rfl, ?_⟩) ?_ ?_
              rotate_left
              · intro w'
                go_simp
                with_reducible rfl
              rotate_left
              · simp only [Act.put, List.setIfInBounds_toArray, List.set_cons_zero, List.set_cons_succ, i64_w, i32_w]
                rfl
              refine pure_ (i := 4) (N := some 39) (v := ?_) (a' := ?_) #[false, true, true, true, true, false, false, false, false, false, false, false, false, false, false, false, false, false] rfl rfl (any_of HT_.out (by kernel_rfl)) (fun _ _ _ h => h) (Or.inl ⟨by rfl, ?_⟩) ?_ ?_
              rotate_left
              · intro w'
                go_simp
                with_reducible rfl
              rotate_left
              · simp only [Act.put, List.setIfInBounds_toArray, List.set_cons_zero, List.set_cons_succ, i64_w, i32_w]
                rfl
              refine take_ (i := 0) (N := some 35) (v := ?_) (a' := ?_) #[true, true, true, true, true, false, false, false, false, false, false, false, false, false, false, false, false, false] rfl rfl (take_ofW HT_.out HW_.out (by kernel_rfl)) (fun _ _ _ h => h) (Or.inl ⟨by rfl, ?_⟩) hHeld ?_ ?_
              rotate_left
              · rintro w' ⟨s0, s1, s2, s3, s4, s5⟩
                go_simp
                with_reducible rfl
              rotate_left
              · simp only [Act.put, List.setIfInBounds_toArray, List.set_cons_zero, List.set_cons_succ, i64_w, i32_w]
                rfl
              refine take_ (i := 5) (N := some 40) (v := ?_) (a' := ?_) #[true, true, true, true, true, true, false, false, false, false, false, false, false, false, false, false, false, false] rfl rfl (take_ofW HT_.out HW_.out (by kernel_rfl)) (fun _ _ _ h => h) (Or.inl ⟨by rfl, ?_⟩) hHeld ?_ ?_
              rotate_left
              · rintro w' ⟨s0, s1, s2, s3, s4, s5⟩
                go_simp
                with_reducible rfl
              rotate_left
              · simp only [Act.put, List.setIfInBounds_toArray, List.set_cons_zero, List.set_cons_succ, i64_w, i32_w]
                rfl
              refine one_ (i := 6) (N := some 41) #[true, true, true, true, true, true, true, false, false, false, false, false, false, false, false, false, false, false] rfl rfl (one_of HT_.out (by kernel_rfl)) (by decide) (fun K hK => ?_)
              refine goes_ Try.func29 (by kernel_rfl) rfl #[.agg #[.slice A5 n cg, .slice none 0 0, .int .i64 0, .int .i64 0], .int .i64 u] (by rfl) rfl rfl (by simp only [List.map_toArray, List.map_cons, List.map_nil]; rfl) ?_
              with_reducible refine ((HCU.out wr.drew (Below.refl _ _).drew)).mono ?_
              rintro e wa ⟨rfl, hb_wa⟩
              refine ⟨_, rfl, ?_⟩
              refine hK.out _ _ ⟨(keep_at hb_wa (show (wr.drew).cell? _ = _ from q0)), (keep_at hb_wa (show (wr.drew).cell? _ = _ from q1)), (keep_at hb_wa (show (wr.drew).cell? _ = _ from q2)), (keep_at hb_wa (show (wr.drew).cell? _ = _ from q3)), (keep_at hb_wa (show (wr.drew).cell? _ = _ from qu)), (keep_at hb_wa (show (wr.drew).cell? _ = _ from qv))⟩ (fun hHeld => ?_)
              clear hK K
              refine norm_ (a' := ?_) ?_ ?_
              rotate_left
              · show Act.put _ (some 41) _ = _
                simp only [Act.put, List.setIfInBounds_toArray, List.set_cons_zero, List.set_cons_succ, i64_w, i32_w]
                rfl
              refine pure_ (i := 7) (N := some 42) (v := ?_) (a' := ?_) #[true, true, true, true, true, true, true, true, false, false, false, false, false, false, false, false, false, false] rfl rfl (any_of HT_.out (by kernel_rfl)) (fun _ _ _ h => h) (Or.inl ⟨by rfl, ?_⟩) ?_ ?_
              rotate_left
              · intro w'
                go_simp
                with_reducible rfl
              rotate_left
              · simp only [Act.put, List.setIfInBounds_toArray, List.set_cons_zero, List.set_cons_succ, i64_w, i32_w]
                rfl
              refine pure_ (i := 8) (N := some 43) (v := ?_) (a' := ?_) #[true, true, true, true, true, true, true, true, true, false, false, false, false, false, false, false, false, false] rfl rfl (any_of HT_.out (by kernel_rfl)) (fun _ _ _ h => h) (Or.inl ⟨by rfl, ?_⟩) ?_ ?_
              rotate_left
              · intro w'
                go_simp
                with_reducible rfl
              rotate_left
              · simp only [Act.put, List.setIfInBounds_toArray, List.set_cons_zero, List.set_cons_succ, i64_w, i32_w]
                rfl
              refine pure_ (i := 10) (N := some 45) (v := ?_) (a' := ?_) #[true, true, true, true, true, true, true, true, true, false, true, false, false, false, false, false, false, false] rfl rfl (any_of HT_.out (by kernel_rfl)) (fun _ _ _ h => h) (Or.inl ⟨by rfl, ?_⟩) ?_ ?_
              rotate_left
              · intro w'
                go_simp
                with_reducible rfl
              rotate_left
              · simp only [Act.put, List.setIfInBounds_toArray, List.set_cons_zero, List.set_cons_succ, i64_w, i32_w]
                rfl
              refine pure_ (i := 11) (N := some 46) (v := ?_) (a' := ?_) #[true, true, true, true, true, true, true, true, true, false, true, true, false, false, false, false, false, false] rfl rfl (any_of HT_.out (by kernel_rfl)) (fun _ _ _ h => h) (Or.inl ⟨by rfl, ?_⟩) ?_ ?_
              rotate_left
              · intro w'
                go_simp
                with_reducible rfl
              rotate_left
              · simp only [Act.put, List.setIfInBounds_toArray, List.set_cons_zero, List.set_cons_succ, i64_w, i32_w]
                rfl
              refine pure_ (i := 12) (N := some 47) (v := ?_) (a' := ?_) #[true, true, true, true, true, true, true, true, true, false, true, true, true, false, false, false, false, false] rfl rfl (any_of HT_.out (by kernel_rfl)) (fun _ _ _ h => h) (Or.inl ⟨by rfl, ?_⟩) ?_ ?_
              rotate_left
              · intro w'
                go_simp
                with_reducible rfl
              rotate_left
              · simp only [Act.put, List.setIfInBounds_toArray, List.set_cons_zero, List.set_cons_succ, i64_w, i32_w]
                rfl
              refine pure_ (i := 13) (N := some 48) (v := ?_) (a' := ?_) #[true, true, true, true, true, true, true, true, true, false, true, true, true, true, false, false, false, false] rfl rfl (any_of HT_.out (by kernel_rfl)) (fun _ _ _ h => h) (Or.inl ⟨by rfl, ?_⟩) ?_ ?_
              rotate_left
              · intro w'
                go_simp
                with_reducible rfl
              rotate_left
              · simp only [Act.put, List.setIfInBounds_toArray, List.set_cons_zero, List.set_cons_succ, i64_w, i32_w]
                rfl
              refine take_ (i := 9) (N := some 44) (v := ?_) (a' := ?_) #[true, true, true, true, true, true, true, true, true, true, true, true, true, true, false, false, false, false] rfl rfl (take_ofW HT_.out HW_.out (by kernel_rfl)) (fun _ _ _ h => h) (Or.inl ⟨by rfl, ?_⟩) hHeld ?_ ?_
              rotate_left
              · rintro w' ⟨s0, s1, s2, s3, s4, s5⟩
                go_simp
                with_reducible rfl
              rotate_left
              · simp only [Act.put, List.setIfInBounds_toArray, List.set_cons_zero, List.set_cons_succ, i64_w, i32_w]
                rfl
              refine take_ (i := 14) (N := some 49) (v := ?_) (a' := ?_) #[true, true, true, true, true, true, true, true, true, true, true, true, true, true, true, false, false, false] rfl rfl (take_ofW HT_.out HW_.out (by kernel_rfl)) (fun _ _ _ h => h) (Or.inl ⟨by rfl, ?_⟩) hHeld ?_ ?_
              rotate_left
              · rintro w' ⟨s0, s1, s2, s3, s4, s5⟩
                go_simp
                with_reducible rfl
              rotate_left
              · simp only [Act.put, List.setIfInBounds_toArray, List.set_cons_zero, List.set_cons_succ, i64_w, i32_w]
                rfl
              refine one_ (i := 15) (N := some 50) #[true, true, true, true, true, true, true, true, true, true, true, true, true, true, true, true, false, false] rfl rfl (one_of HT_.out (by kernel_rfl)) (by decide) (fun K hK => ?_)
              refine goes_ Try.func29 (by kernel_rfl) rfl #[.agg #[.slice A5 n cg, .slice none 0 0, .int .i64 0, .int .i64 0], .int .i64 v] (by rfl) rfl rfl (by simp only [List.map_toArray, List.map_cons, List.map_nil]; rfl) ?_
              with_reducible refine ((HCV.out wa (Below.drewL hb_wa))).mono ?_
              rintro e wb ⟨rfl, hb_wb⟩
              refine ⟨_, rfl, ?_⟩
              refine hK.out _ _ ⟨(keep_at hb_wb (keep_at hb_wa (show (wr.drew).cell? _ = _ from q0))), (keep_at hb_wb (keep_at hb_wa (show (wr.drew).cell? _ = _ from q1))), (keep_at hb_wb (keep_at hb_wa (show (wr.drew).cell? _ = _ from q2))), (keep_at hb_wb (keep_at hb_wa (show (wr.drew).cell? _ = _ from q3))), (keep_at hb_wb (keep_at hb_wa (show (wr.drew).cell? _ = _ from qu))), (keep_at hb_wb (keep_at hb_wa (show (wr.drew).cell? _ = _ from qv)))⟩ (fun hHeld => ?_)
              clear hK K
              refine norm_ (a' := ?_) ?_ ?_
              rotate_left
              · show Act.put _ (some 50) _ = _
                simp only [Act.put, List.setIfInBounds_toArray, List.set_cons_zero, List.set_cons_succ, i64_w, i32_w]
                rfl
              refine pure_ (i := 16) (N := some 51) (v := ?_) (a' := ?_) #[true, true, true, true, true, true, true, true, true, true, true, true, true, true, true, true, true, false] rfl rfl (any_of HT_.out (by kernel_rfl)) (fun _ _ _ h => h) (Or.inl ⟨by rfl, ?_⟩) ?_ ?_
              rotate_left
              · intro w'
                go_simp
                with_reducible rfl
              rotate_left
              · simp only [Act.put, List.setIfInBounds_toArray, List.set_cons_zero, List.set_cons_succ, i64_w, i32_w]
                rfl
              refine pure_ (i := 17) (N := some 52) (v := ?_) (a' := ?_) #[true, true, true, true, true, true, true, true, true, true, true, true, true, true, true, true, true, true] rfl rfl (any_of HT_.out (by kernel_rfl)) (fun _ _ _ h => h) (Or.inl ⟨by rfl, ?_⟩) ?_ ?_
              rotate_left
              · intro w'
                go_simp
                with_reducible rfl
              rotate_left
              · simp only [Act.put, List.setIfInBounds_toArray, List.set_cons_zero, List.set_cons_succ, i64_w, i32_w]
                rfl
              refine done_ (done_of HT_.out (by kernel_rfl)) ?_
              clear hHeld HT_ HW_
              go_wp2
              go_ret
              exact ⟨by rw [HC.out]; rfl, (HB3.out.trans (HBW.out.mono HB3.out.size)).trans (((Below.drewL hb_wa).trans (hb_wb.mono (Below.drewL hb_wa).size)).mono (Nat.le_trans HB3.out.size HBW.out.size))⟩
            · have e2 : decide (plI sl v < 0) = false := by rw [decide_eq_false_iff_not]; exact hv
              have HG := Lib.hid (show ∀ p ∈ R.take (j + 1), sl.contains p.1 = true ∧ sl.contains p.2 = true from fun p hp => by
                rw [List.take_add_one, hx] at hp
                rcases List.mem_append.1 hp with h | h
                · exact hgood p h
                · have : p = (u, v) := by simpa using h
                  subst this
                  refine ⟨hcu, ?_⟩
                  cases h : sl.contains v with
                  | true => rfl
                  | false => exact absurd (plI_neg.2 h) hv)
              clear hC hjk hb hgood hx hxx hm hu hv hcu hj
              go_upto_region 11 with (fail)
              refine start_ (n := 18) (S := fun w' => w'.cell? ⟨gb, 0, none⟩ = some (.slice A5 n cg) ∧ w'.cell? ⟨gb, 1, none⟩ = some (.slice none 0 0) ∧ w'.cell? ⟨gb, 2, none⟩ = some (.int .i64 0) ∧ w'.cell? ⟨gb, 3, none⟩ = some (.int .i64 0) ∧ w'.cell? ⟨b2, j * 2, none⟩ = some (.int .i64 u) ∧ w'.cell? ⟨b2, j * 2 + 1, none⟩ = some (.int .i64 v)) (ds := []) #[false, false, false, false, false, false, false, false, false, false, false, false, false, false, false, false, false, false] (by kernel_rfl) rfl rfl ⟨q0, q1, q2, q3, qu, qv⟩ (fun hHeld => ?_)
              refine with_tabW tb16_11.tab11 tb16_11.bits11 (fun HT_ HW_ => ?_)
              refine pure_ (i := 1) (N := some 36) (v := ?_) (a' := ?_) #[false, true, false, false, false, false, false, false, false, false, false, false, false, false, false, false, false, false] rfl rfl (any_of HT_.out (by kernel_rfl)) (fun _ _ _ h => h) (Or.inl ⟨by rfl, ?_⟩) ?_ ?_
              rotate_left
              · intro w'
                go_simp
                with_reducible rfl
              rotate_left
              · simp only [Act.put, List.setIfInBounds_toArray, List.set_cons_zero, List.set_cons_succ, i64_w, i32_w]
                rfl
              refine pure_ (i := 2) (N := some 37) (v := ?_) (a' := ?_) #[false, true, true, false, false, false, false, false, false, false, false, false, false, false, false, false, false, false] rfl rfl (any_of HT_.out (by kernel_rfl)) (fun _ _ _ h => h) (Or.inl ⟨by rfl, ?_⟩) ?_ ?_
              rotate_left
              · intro w'
                go_simp
                with_reducible rfl
              rotate_left
              · simp only [Act.put, List.setIfInBounds_toArray, List.set_cons_zero, List.set_cons_succ, i64_w, i32_w]
                rfl
              refine pure_ (i := 3) (N := some 38) (v := ?_) (a' := ?_) #[false, true, true, true, false, false, false, false, false, false, false, false, false, false, false, false, false, false] rfl rfl (any_of HT_.out (by kernel_rfl)) (fun _ _ _ h => h) (Or.inl ⟨by rfl, ?_⟩) ?_ ?_
              rotate_left
              · intro w'
                go_simp
                with_reducible rfl
              rotate_left
              · simp only [Act.put, List.setIfInBounds_toArray, List.set_cons_zero, List.set_cons_succ, i64_w, i32_w]
                rfl
              refine pure_ (i := 4) (N := some 39) (v := ?_) (a' := ?_) #[false, true, true, true, true, false, false, false, false, false, false, false, false, false, false, false, false, false] rfl rfl (any_of HT_.out (by kernel_rfl)) (fun _ _ _ h => h) (Or.inl ⟨by rfl, ?_⟩) ?_ ?_
              rotate_left
              · intro w'
                go_simp
                with_reducible rfl
              rotate_left
              · simp only [Act.put, List.setIfInBounds_toArray, List.set_cons_zero, List.set_cons_succ, i64_w, i32_w]
                rfl
              refine take_ (i := 0) (N := some 35) (v := ?_) (a' := ?_) #[true, true, true, true, true, false, false, false, false, false, false, false, false, false, false, false, false, false] rfl rfl (take_ofW HT_.out HW_.out (by kernel_rfl)) (fun _ _ _ h => h) (Or.inl ⟨by rfl, ?_⟩) hHeld ?_ ?_
              rotate_left
              · rintro w' ⟨s0, s1, s2, s3, s4, s5⟩
                go_simp
                with_reducible rfl
              rotate_left
              · simp only [Act.put, List.setIfInBounds_toArray, List.set_cons_zero, List.set_cons_succ, i64_w, i32_w]
                rfl
              refine take_ (i := 5) (N := some 40) (v := ?_) (a' := ?_) #[true, true, true, true, true, true, false, false, false, false, false, false, false, false, false, false, false, false] rfl rfl (take_ofW HT_.out HW_.out (by kernel_rfl)) (fun _ _ _ h => h) (Or.inl ⟨by rfl, ?_⟩) hHeld ?_ ?_
              rotate_left
              · rintro w' ⟨s0, s1, s2, s3, s4, s5⟩
                go_simp
                with_reducible rfl
              rotate_left
              · simp only [Act.put, List.setIfInBounds_toArray, List.set_cons_zero, List.set_cons_succ, i64_w, i32_w]
                rfl
              refine one_ (i := 6) (N := some 41) #[true, true, true, true, true, true, true, false, false, false, false, false, false, false, false, false, false, false] rfl rfl (one_of HT_.out (by kernel_rfl)) (by decide) (fun K hK => ?_)
              refine goes_ Try.func29 (by kernel_rfl) rfl #[.agg #[.slice A5 n cg, .slice none 0 0, .int .i64 0, .int .i64 0], .int .i64 u] (by rfl) rfl rfl (by simp only [List.map_toArray, List.map_cons, List.map_nil]; rfl) ?_
              with_reducible refine ((HCU.out wr.drew (Below.refl _ _).drew)).mono ?_
              rintro e wa ⟨rfl, hb_wa⟩
              refine ⟨_, rfl, ?_⟩
              refine hK.out _ _ ⟨(keep_at hb_wa (show (wr.drew).cell? _ = _ from q0)), (keep_at hb_wa (show (wr.drew).cell? _ = _ from q1)), (keep_at hb_wa (show (wr.drew).cell? _ = _ from q2)), (keep_at hb_wa (show (wr.drew).cell? _ = _ from q3)), (keep_at hb_wa (show (wr.drew).cell? _ = _ from qu)), (keep_at hb_wa (show (wr.drew).cell? _ = _ from qv))⟩ (fun hHeld => ?_)
              clear hK K
              refine norm_ (a' := ?_) ?_ ?_
              rotate_left
              · show Act.put _ (some 41) _ = _
                simp only [Act.put, List.setIfInBounds_toArray, List.set_cons_zero, List.set_cons_succ, i64_w, i32_w]
                rfl
              refine pure_ (i := 7) (N := some 42) (v := ?_) (a' := ?_) #[true, true, true, true, true, true, true, true, false, false, false, false, false, false, false, false, false, false] rfl rfl (any_of HT_.out (by kernel_rfl)) (fun _ _ _ h => h) (Or.inl ⟨by rfl, ?_⟩) ?_ ?_
              rotate_left
              · intro w'
                go_simp
                with_reducible rfl
              rotate_left
              · simp only [Act.put, List.setIfInBounds_toArray, List.set_cons_zero, List.set_cons_succ, i64_w, i32_w]
                rfl
              refine pure_ (i := 8) (N := some 43) (v := ?_) (a' := ?_) #[true, true, true, true, true, true, true, true, true, false, false, false, false, false, false, false, false, false] rfl rfl (any_of HT_.out (by kernel_rfl)) (fun _ _ _ h => h) (Or.inl ⟨by rfl, ?_⟩) ?_ ?_
              rotate_left
              · intro w'
                go_simp
                with_reducible rfl
              rotate_left
              · simp only [Act.put, List.setIfInBounds_toArray, List.set_cons_zero, List.set_cons_succ, i64_w, i32_w]
                rfl
              refine pure_ (i := 10) (N := some 45) (v := ?_) (a' := ?_) #[true, true, true, true, true, true, true, true, true, false, true, false, false, false, false, false, false, false] rfl rfl (any_of HT_.out (by kernel_rfl)) (fun _ _ _ h => h) (Or.inl ⟨by rfl, ?_⟩) ?_ ?_
              rotate_left
              · intro w'
                go_simp
                with_reducible rfl
              rotate_left
              · simp only [Act.put, List.setIfInBounds_toArray, List.set_cons_zero, List.set_cons_succ, i64_w, i32_w]
                rfl
              refine pure_ (i := 11) (N := some 46) (v := ?_) (a' := ?_) #[true, true, true, true, true, true, true, true, true, false, true, true, false, false, false, false, false, false] rfl rfl (any_of HT_.out (by kernel_rfl)) (fun _ _ _ h => h) (Or.inl ⟨by rfl, ?_⟩) ?_ ?_
              rotate_left
              · intro w'
                go_simp
                with_reducible rfl
              rotate_left
              · simp only [Act.put, List.setIfInBounds_toArray, List.set_cons_zero, List.set_cons_succ, i64_w, i32_w]
                rfl
              refine pure_ (i := 12) (N := some 47) (v := ?_) (a' := ?_) #[true, true, true, true, true, true, true, true, true, false, true, true, true, false, false, false, false, false] rfl rfl (any_of HT_.out (by kernel_rfl)) (fun _ _ _ h => h) (Or.inl ⟨by rfl, ?_⟩) ?_ ?_
              rotate_left
              · intro w'
                go_simp
                with_reducible rfl
              rotate_left
              · simp only [Act.put, List.setIfInBounds_toArray, List.set_cons_zero, List.set_cons_succ, i64_w, i32_w]
                rfl
              refine pure_ (i := 13) (N := some 48) (v := ?_) (a' := ?_) #[true, true, true, true, true, true, true, true, true, false, true, true, true, true, false, false, false, false] rfl rfl (any_of HT_.out (by kernel_rfl)) (fun _ _ _ h => h) (Or.inl ⟨by rfl, ?_⟩) ?_ ?_
              rotate_left
              · intro w'
                go_simp
                with_reducible rfl
              rotate_left
              · simp only [Act.put, List.setIfInBounds_toArray, List.set_cons_zero, List.set_cons_succ, i64_w, i32_w]
                rfl
              refine take_ (i := 9) (N := some 44) (v := ?_) (a' := ?_) #[true, true, true, true, true, true, true, true, true, true, true, true, true, true, false, false, false, false] rfl rfl (take_ofW HT_.out HW_.out (by kernel_rfl)) (fun _ _ _ h => h) (Or.inl ⟨by rfl, ?_⟩) hHeld ?_ ?_
              rotate_left
              · rintro w' ⟨s0, s1, s2, s3, s4, s5⟩
                go_simp
                with_reducible rfl
              rotate_left
              · simp only [Act.put, List.setIfInBounds_toArray, List.set_cons_zero, List.set_cons_succ, i64_w, i32_w]
                rfl
              refine take_ (i := 14) (N := some 49) (v := ?_) (a' := ?_) #[true, true, true, true, true, true, true, true, true, true, true, true, true, true, true, false, false, false] rfl rfl (take_ofW HT_.out HW_.out (by kernel_rfl)) (fun _ _ _ h => h) (Or.inl ⟨by rfl, ?_⟩) hHeld ?_ ?_
              rotate_left
              · rintro w' ⟨s0, s1, s2, s3, s4, s5⟩
                go_simp
                with_reducible rfl
              rotate_left
              · simp only [Act.put, List.setIfInBounds_toArray, List.set_cons_zero, List.set_cons_succ, i64_w, i32_w]
                rfl
              refine one_ (i := 15) (N := some 50) #[true, true, true, true, true, true, true, true, true, true, true, true, true, true, true, true, false, false] rfl rfl (one_of HT_.out (by kernel_rfl)) (by decide) (fun K hK => ?_)
              refine goes_ Try.func29 (by kernel_rfl) rfl #[.agg #[.slice A5 n cg, .slice none 0 0, .int .i64 0, .int .i64 0], .int .i64 v] (by rfl) rfl rfl (by simp only [List.map_toArray, List.map_cons, List.map_nil]; rfl) ?_
              with_reducible refine ((HCV.out wa (Below.drewL hb_wa))).mono ?_
              rintro e wb ⟨rfl, hb_wb⟩
              refine ⟨_, rfl, ?_⟩
              refine hK.out _ _ ⟨(keep_at hb_wb (keep_at hb_wa (show (wr.drew).cell? _ = _ from q0))), (keep_at hb_wb (keep_at hb_wa (show (wr.drew).cell? _ = _ from q1))), (keep_at hb_wb (keep_at hb_wa (show (wr.drew).cell? _ = _ from q2))), (keep_at hb_wb (keep_at hb_wa (show (wr.drew).cell? _ = _ from q3))), (keep_at hb_wb (keep_at hb_wa (show (wr.drew).cell? _ = _ from qu))), (keep_at hb_wb (keep_at hb_wa (show (wr.drew).cell? _ = _ from qv)))⟩ (fun hHeld => ?_)
              clear hK K
              refine norm_ (a' := ?_) ?_ ?_
              rotate_left
              · show Act.put _ (some 50) _ = _
                simp only [Act.put, List.setIfInBounds_toArray, List.set_cons_zero, List.set_cons_succ, i64_w, i32_w]
                rfl
              refine pure_ (i := 16) (N := some 51) (v := ?_) (a' := ?_) #[true, true, true, true, true, true, true, true, true, true, true, true, true, true, true, true, true, false] rfl rfl (any_of HT_.out (by kernel_rfl)) (fun _ _ _ h => h) (Or.inl ⟨by rfl, ?_⟩) ?_ ?_
              rotate_left
              · intro w'
                go_simp
                with_reducible rfl
              rotate_left
              · simp only [Act.put, List.setIfInBounds_toArray, List.set_cons_zero, List.set_cons_succ, i64_w, i32_w]
                rfl
              refine pure_ (i := 17) (N := some 52) (v := ?_) (a' := ?_) #[true, true, true, true, true, true, true, true, true, true, true, true, true, true, true, true, true, true] rfl rfl (any_of HT_.out (by kernel_rfl)) (fun _ _ _ h => h) (Or.inl ⟨by rfl, ?_⟩) ?_ ?_
              rotate_left
              · intro w'
                go_simp
                with_reducible rfl
              rotate_left
              · simp only [Act.put, List.setIfInBounds_toArray, List.set_cons_zero, List.set_cons_succ, i64_w, i32_w]
                rfl
              refine done_ (done_of HT_.out (by kernel_rfl)) ?_
              clear hHeld HT_ HW_
              clear qu qv q0 q1 q2 q3
              have HBN := Lib.hid (HBW.out.trans (((Below.drewL hb_wa).trans (hb_wb.mono (Below.drewL hb_wa).size)).mono HBW.out.size))
              clear hb_wa hb_wb
              go_wp2
              go_roundg k1
              case measure => have := HJK.out; omega
              case rel => exact ⟨j + 1, by go_num, Lib.hid ⟨by have := HJK.out; omega, HBN.out, HG.out⟩⟩
        · obtain rfl : j = R.length := by omega
          rw [List.take_length] at hgood
          have HC := Lib.hid (show code = 0 by
            rw [← HCD.out]
            unfold codeV
            rw [if_pos HND.out, if_pos (good_iff.2 hgood)])
          have HBW := Lib.hid hb
          clear hb hgood hjk hj
          go_wp2
          go_ret
          exact ⟨by rw [HC.out]; rfl, HB3.out.trans (HBW.out.mono HB3.out.size)⟩

end Go.Proofs.Ythlmffjafeodlaa.Lw

/- The references' Graph, walked. -/
namespace Go.Proofs.Ythlmffjafeodlaa.Lw
open Go Go.RowKit Go.Proofs.Ythlmffjafeodlaa.Mem Go.Proofs.Ythlmffjafeodlaa.Sl Go.Proofs.Ythlmffjafeodlaa.Scc Go.Proofs.Ythlmffjafeodlaa.Tj Go.Proofs.YthlmffjafeodlaaW.PrintWords Go.Proofs.YthlmffjafeodlaaW.PrintLast
attribute [local go_sem ↓] Go.wp_at_zero Go.wp_at_succ
set_option linter.unusedSimpArgs false
set_option linter.unusedVariables false

theorem info_edge : (Try.prog.info? 66).map (fun i => (i.zero, i.size, i.bytes)) = some (some (.agg #[.int .i64 0, .int .i64 0, .int .i64 0, .int .u32 0]), 4, 32) := by kernel_rfl

/-- The edges' ends can be read. -/
def RdE (w : World) (A : Option Addr) (l : List (Int × Int)) : Prop := ∀ (j : Nat) (u v : Int), l[j]? = some (u, v) → ∃ b, A = some ⟨b, 0, none⟩ ∧ w.cell? ⟨b, j * 4 + 1, none⟩ = some (.int .i64 u) ∧ w.cell? ⟨b, j * 4 + 2, none⟩ = some (.int .i64 v)
theorem RdE.below {w w' : World} {A : Option Addr} {l : List (Int × Int)} (h : RdE w A l) (hb : Below w.heap.size w w') : RdE w' A l := fun j u v hx => by
  obtain ⟨b, h1, h2, h3⟩ := h j u v hx
  exact ⟨b, h1, keep_at hb h2, keep_at hb h3⟩

/-- Cells of edges: the ends stand where they should. -/
def EdC (l : List (Int × Int)) (xs : List Value) : Prop := xs.length = l.length * 4 ∧ ∀ (j : Nat) (u v : Int), l[j]? = some (u, v) → xs[j * 4 + 1]? = some (.int .i64 u) ∧ xs[j * 4 + 2]? = some (.int .i64 v)
theorem EdC.nil : EdC [] [] := ⟨rfl, fun j u v h => by simp at h⟩
theorem EdC.snoc {l : List (Int × Int)} {xs : List Value} {u v : Int} {e f : Value} (h : EdC l xs) : EdC (l ++ [(u, v)]) (xs ++ [e, .int .i64 u, .int .i64 v, f]) := by
  refine ⟨by simp [h.1]; omega, fun j a b hx => ?_⟩
  have hl := h.1
  rcases Nat.lt_or_ge j l.length with hj | hj
  · rw [List.getElem?_append_left hj] at hx
    rw [List.getElem?_append_left (by omega), List.getElem?_append_left (by omega)]
    exact h.2 j a b hx
  · have hj2 : j = l.length := by
      have := (List.getElem?_eq_some_iff.1 hx).1
      simp at this
      omega
    subst hj2
    rw [List.getElem?_append_right (Nat.le_refl _), Nat.sub_self] at hx
    cases hx
    rw [List.getElem?_append_right (by omega), List.getElem?_append_right (by omega), show l.length * 4 + 1 - xs.length = 1 by omega, show l.length * 4 + 2 - xs.length = 2 by omega]
    exact ⟨rfl, rfl⟩

/-- The state of Graph. -/
structure GS (w : World) (gx gb : Nat) (A : Option Addr) (n cg : Nat) (sl : List Int) (vE : Value) (l : List (Int × Int)) (W : World) : Prop where
  x : At W gx [.slice A n cg, vE, .int .i64 0, .int .i64 0] 44
  b : At W gb [.slice none 0 0, .slice none 0 0, .int .i64 0, .int .i64 0] 44
  ne : gx ≠ gb
  hx : w.heap.size ≤ gx
  hb : w.heap.size ≤ gb
  o : ∃ xs, EdC l xs ∧ Two w 3 1 (.slice A n cg) n (ints sl) 66 4 vE l.length xs W

section
variable {w W W' : World} {gx gb n cg : Nat} {A : Option Addr} {sl : List Int} {vE : Value} {l : List (Int × Int)}
theorem GS.below (h : GS w gx gb A n cg sl vE l W) (hb : Below W.heap.size W W') : GS w gx gb A n cg sl vE l W' := by
  obtain ⟨xs, h1, h2⟩ := h.o
  exact ⟨h.x.below hb h.x.lt, h.b.below hb h.b.lt, h.ne, h.hx, h.hb, xs, h1, h2.below hb⟩
theorem own_beside {base g i s k : Nat} {e T : TypeId} {v u : Value} {xs cs : List Value} (h : W.ownsRow base e s v k xs) (hg : At W g cs T) (hne : T ≠ e) : (W.setCell ⟨g, i, none⟩ u).ownsRow base e s v k xs :=
  h.kept (row := some g) ⟨rfl, rfl, rfl, by simp, fun m _ hm => by
    have : m ≠ g := fun e => hm (by rw [e])
    exact heap_setCell_other W ⟨g, i, none⟩ m u this⟩ (.inr (own_off h hg hne).symm)
end

def tb17_5.T5 : Bool × List (List Nat × List Nat) := (true, [([], []), ([0], [0]), ([], []), ([2], [2]), ([], []), ([], []), ([4, 5], [4, 5]), ([6], [6]), ([7], [7]), ([], []), ([], []), ([9, 10], [9, 10]), ([11], [11]), ([12], [12]), ([3, 8, 13], [3, 8, 13]), ([14], [14]), ([1, 15], [1, 15]), ([0, 1, 2, 3, 4, 5, 6, 7, 8, 9, 10, 11, 12, 13, 14, 15, 16], []), ([17, 16, 16, 0, 1, 2, 3, 4, 5, 6, 7, 8, 9, 10, 11, 12, 13, 14, 15, 16], [16, 17])])
def tb17_5.B5 : List Nat := [0, 1, 0, 4, 0, 0, 48, 112, 240, 0, 0, 1536, 3584, 7680, 16380, 32764, 65535, 131071, 262143]
theorem tb17_5.tab5 : rtab .any (opsOf Try.f17 5) = tb17_5.T5 := by kernel_rfl
theorem tb17_5.bits5 : waitsOk tb17_5.T5.2 tb17_5.B5 = true := by kernel_rfl
set_option maxHeartbeats 8000000 in
set_option maxRecDepth 100000 in
theorem graph_calls (w : World) (A1 A2 : Option Addr) (c1 c2 : Nat) (L : List Int) (R : List (Int × Int)) (hv : RdI w A1 L) (ha : RdA w A2 R) (hl : L.length ≤ 100000) (hr : R.length ≤ 100000) :
    Calls Try.prog 17 #[.slice A1 L.length c1, .slice A2 R.length c2] w fun e w' => ∃ A5 cg AE ce, e = .returned (gV A5 L.length cg (.slice AE R.length ce)) ∧ RdI w' A5 (sorted L) ∧ RdE w' AE R ∧ Below w.heap.size w w' := by
  obtain ⟨i4, hi4, hz4, hs4, hy4⟩ := info_parts info_edge
  obtain ⟨n, hn⟩ : ∃ n, L.length = n := ⟨_, rfl⟩
  have hSC := fun (W : World) (hW : Below w.heap.size w W) => sorted_calls W A1 c1 L (hv.below hW) (by omega)
  have hsl := sorted_length L
  obtain ⟨sl, hsle⟩ : ∃ sl, sorted L = sl := ⟨_, rfl⟩
  rw [hsle] at hSC hsl ⊢
  rw [hn] at hSC hl hsl ⊢
  have HSC := Lib.hid hSC
  have HA := Lib.hid ha
  have HN := Lib.hid hsl
  clear hv ha hSC hsl hsle hn
  unfold gV
  go_enter Try.func17, Try.ntmps17
  go_wp2_with fail
  refine (HSC.out _ ((Below.refl _ _).alloc (Nat.le_refl _) _)).mono ?_
  clear HSC
  rintro e w1 ⟨v5, rfl, hO⟩
  obtain ⟨A5, cg, rfl⟩ := own_slice hO.r
  have hsz : (w.alloc (.cells #[.slice none 0 0, .slice none 0 0, .int .i64 0, .int .i64 0] 44)).heap.size = w.heap.size + 1 := by simp
  have hgb : At w1 w.heap.size [.slice none 0 0, .slice none 0 0, .int .i64 0, .int .i64 0] 44 := (At.made (w := w) (a := #[.slice none 0 0, .slice none 0 0, .int .i64 0, .int .i64 0]) rfl rfl).below hO.b (by rw [hsz]; omega)
  have hrow : w1.ownsRow w.heap.size 3 1 (.slice A5 n cg) n (ints sl) := own_mono hO.r (by rw [hsz]; omega)
  have hbel : Below w.heap.size w w1 := ((Below.refl _ _).alloc (Nat.le_refl _) _).trans (hO.b.mono (by rw [hsz]; omega))
  have hlt : w.heap.size < w1.heap.size := by have := hO.b.size; rw [hsz] at this; omega
  have HGB := Lib.hid hgb
  have HRW := Lib.hid hrow
  have HBL := Lib.hid hbel
  have HLT := Lib.hid hlt
  clear hO hsz hgb hrow hbel hlt
  go_wp2_with fail
  refine gen_loopw (fun W => GS w w1.heap.size w.heap.size A5 n cg sl (.slice none 0 0) [] W) ?_ ?_
  · have hal := (Below.refl w1.heap.size w1).alloc (Nat.le_refl _) (.cells #[.slice A5 n cg, .slice none 0 0, .int .i64 0, .int .i64 0] 44)
    exact ⟨At.made rfl rfl, HGB.out.al, by have := HLT.out; omega, by have := HLT.out; omega, Nat.le_refl _, [], EdC.nil, ⟨HRW.out.alloc _, World.ownsRow_nil _ _ _ _, fun k _ h => by simp [Value.ownBlock] at h, HBL.out.alloc HBL.out.size _⟩⟩
  clear HGB HRW HBL HLT
  obtain ⟨gx, hgx⟩ : ∃ gx, w1.heap.size = gx := ⟨_, rfl⟩
  obtain ⟨gb, hgb⟩ : ∃ gb, w.heap.size = gb := ⟨_, rfl⟩
  rw [hgx, hgb]
  have HGBE := Lib.hid hgb
  clear hgx hgb
  intro w3 hG
  have HG := Lib.hid hG
  clear hG
  go_loopg [6] R.length (fun kq v6 w' => ∃ j : Nat, v6 = .int .i64 (j : Int) ∧ Hid (j + kq = R.length ∧ ∃ vE, GS w gx gb A5 n cg sl vE (R.take j) w'))
  case atStart => exact ⟨0, rfl, Lib.hid ⟨by omega, _, by rw [List.take_zero]; exact HG.out⟩⟩
  case round =>
    clear HG
    obtain ⟨j, rfl, hI⟩ := hrel
    obtain ⟨hjk, vE, hG⟩ := hI.out
    clear hI
    obtain ⟨xs, hxs, hT⟩ := hG.o
    have hne := hG.ne
    by_cases hj : j < R.length
    · obtain ⟨k1, rfl⟩ : ∃ k1, gk = k1 + 1 := ⟨gk - 1, by omega⟩
      obtain ⟨⟨u, v⟩, hxx⟩ : ∃ x, R[j] = x := ⟨_, rfl⟩
      have hx : R[j]? = some (u, v) := by rw [List.getElem?_eq_getElem hj, hxx]
      have htk : R.take (j + 1) = R.take j ++ [(u, v)] := by rw [List.take_add_one, hx]; rfl
      obtain ⟨b2, rfl, qu, qv⟩ := (HA.out.below hT.b) j u v hx
      have q1 := hG.x.cell 1 rfl
      obtain ⟨l0, hl0⟩ : ∃ l0, R.take j = l0 := ⟨_, rfl⟩
      have hl0n : l0.length ≤ 100000 := by rw [← hl0, List.length_take]; omega
      rw [hl0] at hT hxs htk
      have HT := Lib.hid hT
      have HX := Lib.hid hG.x
      have HGB := Lib.hid hG.b
      have HW := Lib.hid (show gx ≠ gb ∧ w.heap.size ≤ gx ∧ w.heap.size ≤ gb from ⟨hG.ne, hG.hx, hG.hb⟩)
      have HXS := Lib.hid hxs
      have HTK := Lib.hid htk
      have HJK := Lib.hid hjk
      have j0 : (0 : Int) ≤ (j : Int) := by omega
      have j1 : (j : Int) < (R.length : Int) := by omega
      have j2 : (R.length : Int) ≤ 100000 := by omega
      have e4 : ∀ z : Int, z = (j : Int) + 1 → wrap64 z = z := fun z hz => by subst hz; unfold wrap64; omega
      clear hT hxs hG hx hxx htk hl0 hjk hj
      go_upto_region 5 with (fail)
      refine start_ (n := 19) (S := fun w' => w'.cell? ⟨gx, 1, none⟩ = some vE ∧ w'.cell? ⟨b2, j * 2, none⟩ = some (.int .i64 u) ∧ w'.cell? ⟨b2, j * 2 + 1, none⟩ = some (.int .i64 v)) (ds := [16, 18]) #[false, false, false, false, false, false, false, false, false, false, false, false, false, false, false, false, false, false, false] (by kernel_rfl) rfl rfl ⟨q1, qu, qv⟩ (fun hHeld => ?_)
      refine with_tabW tb17_5.tab5 tb17_5.bits5 (fun HT_ HW_ => ?_)
      refine pure_ (i := 0) (N := some 16) (v := ?_) (a' := ?_) #[true, false, false, false, false, false, false, false, false, false, false, false, false, false, false, false, false, false, false] rfl rfl (any_of HT_.out (by kernel_rfl)) (fun _ _ _ h => h) (Or.inl ⟨by rfl, ?_⟩) ?_ ?_
      rotate_left
      · intro w'
        go_simp
        with_reducible rfl
      rotate_left
      · simp only [Act.put, List.setIfInBounds_toArray, List.set_cons_zero, List.set_cons_succ, i64_w, i32_w]
        rfl
      refine pure_ (i := 2) (N := some 18) (v := ?_) (a' := ?_) #[true, false, true, false, false, false, false, false, false, false, false, false, false, false, false, false, false, false, false] rfl rfl (any_of HT_.out (by kernel_rfl)) (fun _ _ _ h => h) (Or.inl ⟨by rfl, ?_⟩) ?_ ?_
      rotate_left
      · intro w'
        go_simp
        with_reducible rfl
      rotate_left
      · simp only [Act.put, List.setIfInBounds_toArray, List.set_cons_zero, List.set_cons_succ, i64_w, i32_w]
        rfl
      refine pure_ (i := 3) (N := some 19) (v := ?_) (a' := ?_) #[true, false, true, true, false, false, false, false, false, false, false, false, false, false, false, false, false, false, false] rfl rfl (any_of HT_.out (by kernel_rfl)) (fun _ _ _ h => h) (Or.inl ⟨by rfl, ?_⟩) ?_ ?_
      rotate_left
      · intro w'
        go_simp
        with_reducible rfl
      rotate_left
      · simp only [Act.put, List.setIfInBounds_toArray, List.set_cons_zero, List.set_cons_succ, i64_w, i32_w]
        rfl
      refine pure_ (i := 4) (N := some 20) (v := ?_) (a' := ?_) #[true, false, true, true, true, false, false, false, false, false, false, false, false, false, false, false, false, false, false] rfl rfl (any_of HT_.out (by kernel_rfl)) (fun _ _ _ h => h) (Or.inl ⟨by rfl, ?_⟩) ?_ ?_
      rotate_left
      · intro w'
        go_simp
        with_reducible rfl
      rotate_left
      · simp only [Act.put, List.setIfInBounds_toArray, List.set_cons_zero, List.set_cons_succ, i64_w, i32_w]
        rfl
      refine pure_ (i := 5) (N := some 21) (v := ?_) (a' := ?_) #[true, false, true, true, true, true, false, false, false, false, false, false, false, false, false, false, false, false, false] rfl rfl (any_of HT_.out (by kernel_rfl)) (fun _ _ _ h => h) (Or.inl ⟨by rfl, ?_⟩) ?_ ?_
      rotate_left
      · intro w'
        go_simp
        with_reducible rfl
      rotate_left
      · simp only [Act.put, List.setIfInBounds_toArray, List.set_cons_zero, List.set_cons_succ, i64_w, i32_w]
        rfl
      refine pure_ (i := 6) (N := some 22) (v := ?_) (a' := ?_) #[true, false, true, true, true, true, true, false, false, false, false, false, false, false, false, false, false, false, false] rfl rfl (any_of HT_.out (by kernel_rfl)) (fun _ _ _ h => h) (Or.inl ⟨by rfl, ?_⟩) ?_ ?_
      rotate_left
      · intro w'
        go_simp
        with_reducible rfl
      rotate_left
      · simp only [Act.put, List.setIfInBounds_toArray, List.set_cons_zero, List.set_cons_succ, i64_w, i32_w]
        rfl
      refine pure_ (i := 7) (N := some 23) (v := ?_) (a' := ?_) #[true, false, true, true, true, true, true, true, false, false, false, false, false, false, false, false, false, false, false] rfl rfl (any_of HT_.out (by kernel_rfl)) (fun _ _ _ h => h) (Or.inl ⟨by rfl, ?_⟩) ?_ ?_
      rotate_left
      · intro w'
        go_simp
        with_reducible rfl
      rotate_left
      · simp only [Act.put, List.setIfInBounds_toArray, List.set_cons_zero, List.set_cons_succ, i64_w, i32_w]
        rfl
      refine pure_ (i := 9) (N := some 25) (v := ?_) (a' := ?_) #[true, false, true, true, true, true, true, true, false, true, false, false, false, false, false, false, false, false, false] rfl rfl (any_of HT_.out (by kernel_rfl)) (fun _ _ _ h => h) (Or.inl ⟨by rfl, ?_⟩) ?_ ?_
      rotate_left
      · intro w'
        go_simp
        with_reducible rfl
      rotate_left
      · simp only [Act.put, List.setIfInBounds_toArray, List.set_cons_zero, List.set_cons_succ, i64_w, i32_w]
        rfl
      refine pure_ (i := 10) (N := some 26) (v := ?_) (a' := ?_) #[true, false, true, true, true, true, true, true, false, true, true, false, false, false, false, false, false, false, false] rfl rfl (any_of HT_.out (by kernel_rfl)) (fun _ _ _ h => h) (Or.inl ⟨by rfl, ?_⟩) ?_ ?_
      rotate_left
      · intro w'
        go_simp
        with_reducible rfl
      rotate_left
      · simp only [Act.put, List.setIfInBounds_toArray, List.set_cons_zero, List.set_cons_succ, i64_w, i32_w]
        rfl
      refine pure_ (i := 11) (N := some 27) (v := ?_) (a' := ?_) #[true, false, true, true, true, true, true, true, false, true, true, true, false, false, false, false, false, false, false] rfl rfl (any_of HT_.out (by kernel_rfl)) (fun _ _ _ h => h) (Or.inl ⟨by rfl, ?_⟩) ?_ ?_
      rotate_left
      · intro w'
        go_simp
        with_reducible rfl
      rotate_left
      · simp only [Act.put, List.setIfInBounds_toArray, List.set_cons_zero, List.set_cons_succ, i64_w, i32_w]
        rfl
      refine pure_ (i := 12) (N := some 28) (v := ?_) (a' := ?_) #[true, false, true, true, true, true, true, true, false, true, true, true, true, false, false, false, false, false, false] rfl rfl (any_of HT_.out (by kernel_rfl)) (fun _ _ _ h => h) (Or.inl ⟨by rfl, ?_⟩) ?_ ?_
      rotate_left
      · intro w'
        go_simp
        with_reducible rfl
      rotate_left
      · simp only [Act.put, List.setIfInBounds_toArray, List.set_cons_zero, List.set_cons_succ, i64_w, i32_w]
        rfl
      refine take_ (i := 1) (N := some 17) (v := ?_) (a' := ?_) #[true, true, true, true, true, true, true, true, false, true, true, true, true, false, false, false, false, false, false] rfl rfl (take_ofW HT_.out HW_.out (by kernel_rfl)) (fun _ _ _ h => h) (Or.inl ⟨by rfl, ?_⟩) hHeld ?_ ?_
      rotate_left
      · rintro w' ⟨s0, s1, s2⟩
        go_simp
        with_reducible rfl
      rotate_left
      · simp only [Act.put, List.setIfInBounds_toArray, List.set_cons_zero, List.set_cons_succ, i64_w, i32_w]
        rfl
      refine take_ (i := 8) (N := some 24) (v := ?_) (a' := ?_) #[true, true, true, true, true, true, true, true, true, true, true, true, true, false, false, false, false, false, false] rfl rfl (take_ofW HT_.out HW_.out (by kernel_rfl)) (fun _ _ _ h => h) (Or.inl ⟨by rfl, ?_⟩) hHeld ?_ ?_
      rotate_left
      · rintro w' ⟨s0, s1, s2⟩
        go_simp
        with_reducible rfl
      rotate_left
      · simp only [Act.put, List.setIfInBounds_toArray, List.set_cons_zero, List.set_cons_succ, i64_w, i32_w]
        rfl
      refine take_ (i := 13) (N := some 29) (v := ?_) (a' := ?_) #[true, true, true, true, true, true, true, true, true, true, true, true, true, true, false, false, false, false, false] rfl rfl (take_ofW HT_.out HW_.out (by kernel_rfl)) (fun _ _ _ h => h) (Or.inl ⟨by rfl, ?_⟩) hHeld ?_ ?_
      rotate_left
      · rintro w' ⟨s0, s1, s2⟩
        go_simp
        with_reducible rfl
      rotate_left
      · simp only [Act.put, List.setIfInBounds_toArray, List.set_cons_zero, List.set_cons_succ, i64_w, i32_w]
        rfl
      refine pure_ (i := 14) (N := some 30) (v := ?_) (a' := ?_) #[true, true, true, true, true, true, true, true, true, true, true, true, true, true, true, false, false, false, false] rfl rfl (any_of HT_.out (by kernel_rfl)) (fun _ _ _ h => h) (Or.inl ⟨by rfl, ?_⟩) ?_ ?_
      rotate_left
      · intro w'
        go_simp
        with_reducible rfl
      rotate_left
      · simp only [Act.put, List.setIfInBounds_toArray, List.set_cons_zero, List.set_cons_succ, i64_w, i32_w]
        rfl
      refine one_ (i := 15) (N := some 31) #[true, true, true, true, true, true, true, true, true, true, true, true, true, true, true, true, false, false, false] rfl rfl (one_of HT_.out (by kernel_rfl)) (by decide) (fun K hK => ?_)
      refine value_ (w1 := ?_) (v := ?_) (by rfl) rfl ?_ ?_
      rotate_left 2
      · go_simp
        constructor
        · rfl
        · rfl
      refine hK.out _ _ ⟨(cell_al (w := wr.drew) q1 _), (cell_al (w := wr.drew) qu _), (cell_al (w := wr.drew) qv _)⟩ (fun hHeld => ?_)
      clear hK K
      refine norm_ (a' := ?_) ?_ ?_
      rotate_left
      · show Act.put _ (some 31) _ = _
        simp only [Act.put, List.setIfInBounds_toArray, List.set_cons_zero, List.set_cons_succ, i64_w, i32_w]
        rfl
      refine last_ (i := 16) (N := some 32) #[true, true, true, true, true, true, true, true, true, true, true, true, true, true, true, true, true, false, false] rfl rfl (one_of HT_.out (by kernel_rfl)) (by decide) (fun K hK => ?_)
      refine step_append_any rfl (.tmp 17) (.tmp 31) 42 rfl w.heap.size 66 i4 (.agg #[.int .i64 0, .int .i64 0, .int .i64 0, .int .u32 0]) 4 32 Try.underlying42 hi4 hz4 hs4 hy4 rfl (by omega) _ _ _ rfl (HT.out.r2.drew.alloc (.cells #[.int .i64 ((j : Int) + 1), .int .i64 u, .int .i64 v, .int .u32 0] 66)) _ rfl 1 [.int .i64 ((j : Int) + 1), .int .i64 u, .int .i64 v, .int .u32 0] (RdV.lit wr.drew #[.int .i64 ((j : Int) + 1), .int .i64 u, .int .i64 v, .int .u32 0] 66 1 4 1 rfl (by simp [Value.oneCell'])) (by unfold maxLen; omega) (by omega) (by have := HT.out.b.size; simp; omega) ?_
      intro v6 w6 ho hg hn
      obtain ⟨A6, c6, rfl⟩ := own_slice ho
      have htwo := (HT.out.below (Below.drAl wr (.cells #[.int .i64 ((j : Int) + 1), .int .i64 u, .int .i64 v, .int .u32 0] 66))).grow2 ho hg hn
      have hgx := (HX.out.drew.al (o := (.cells #[.int .i64 ((j : Int) + 1), .int .i64 u, .int .i64 v, .int .u32 0] 66))).grown hg (own_off (HT.out.r2.drew.alloc (.cells #[.int .i64 ((j : Int) + 1), .int .i64 u, .int .i64 v, .int .u32 0] 66)) (HX.out.drew.al) (by decide))
      have hgb := (HGB.out.drew.al (o := (.cells #[.int .i64 ((j : Int) + 1), .int .i64 u, .int .i64 v, .int .u32 0] 66))).grown hg (own_off (HT.out.r2.drew.alloc (.cells #[.int .i64 ((j : Int) + 1), .int .i64 u, .int .i64 v, .int .u32 0] 66)) (HGB.out.drew.al) (by decide))
      have hs16 := hgx.cell 1 rfl
      have hf16 := hgx.free 1
      have HT6 := Lib.hid htwo
      have HX6 := Lib.hid hgx
      have HGB6 := Lib.hid hgb
      clear ho hg hn htwo hgx hgb HT HX HGB
      refine hK.out _ _ ?_
      clear hK K
      refine norm_ (a' := ?_) ?_ ?_
      rotate_left
      · show Act.put _ (some 32) _ = _
        simp only [Act.put, List.setIfInBounds_toArray, List.set_cons_zero, List.set_cons_succ, i64_w, i32_w]
        rfl
      refine pure_ (i := 17) (N := some 33) (v := ?_) (a' := ?_) #[true, true, true, true, true, true, true, true, true, true, true, true, true, true, true, true, true, true, false] rfl rfl (any_of HT_.out (by kernel_rfl)) (fun _ _ _ h => h) (Or.inl ⟨by rfl, ?_⟩) ?_ ?_
      rotate_left
      · intro w'
        go_simp
        with_reducible rfl
      rotate_left
      · simp only [Act.put, List.setIfInBounds_toArray, List.set_cons_zero, List.set_cons_succ, i64_w, i32_w]
        rfl
      refine last_ (i := 18) (N := none) #[true, true, true, true, true, true, true, true, true, true, true, true, true, true, true, true, true, true, true] rfl rfl (one_of HT_.out (by kernel_rfl)) (by decide) (fun K hK => ?_)
      refine skip_ (w1 := ?_) (by rfl) rfl ?_ ?_
      rotate_left
      · go_simp
        rfl
      refine hK.out _ _ ?_
      clear hK K
      refine done_ (done_of HT_.out (by kernel_rfl)) ?_
      clear hHeld HT_ HW_
      clear q1 qu qv
      go_wp2
      go_roundg k1
      case measure => have := HJK.out; omega
      case rel =>
        refine ⟨j + 1, by go_num, Lib.hid ⟨by have := HJK.out; omega, .slice A6 (l0.length + 1) c6, ?_⟩⟩
        rw [HTK.out]
        have ht := HT6.out
        refine ⟨HX6.out.put rfl, HGB6.out.off HW.out.1.symm, HW.out.1, HW.out.2.1, HW.out.2.2, xs ++ [.int .i64 ((j : Int) + 1), .int .i64 u, .int .i64 v, .int .u32 0], HXS.out.snoc, ?_⟩
        rw [List.length_append, List.length_singleton]
        exact ⟨own_beside ht.r1 HX6.out (by decide), own_beside ht.r2 HX6.out (by decide), ht.ne, ht.b.setCell HW.out.2.1 _⟩
    · obtain rfl : j = R.length := by omega
      rw [List.take_length] at hxs hT hG
      obtain ⟨AE, ce, rfl⟩ := own_slice hT.r2
      have q0 := hG.x.cell 0 rfl
      have q1 := hG.x.cell 1 rfl
      have q2 := hG.x.cell 2 rfl
      have q3 := hG.x.cell 3 rfl
      have g0 := hG.b.cell 0 rfl
      have g1 := hG.b.cell 1 rfl
      have g2 := hG.b.cell 2 rfl
      have g3 := hG.b.cell 3 rfl
      have f0 := hG.b.free 0
      have f1 := hG.b.free 1
      have f2 := hG.b.free 2
      have f3 := hG.b.free 3
      have HG := Lib.hid hG
      have HT := Lib.hid hT
      have HXS := Lib.hid hxs
      clear hG hT hxs hjk hj
      go_wp2_with fail
      have a1 : At _ gb [.slice A5 n cg, .slice none 0 0, .int .i64 0, .int .i64 0] 44 := HG.out.b.set 0 (.slice A5 n cg)
      have a2 : At _ gb [.slice A5 n cg, .slice AE R.length ce, .int .i64 0, .int .i64 0] 44 := a1.set 1 (.slice AE R.length ce)
      have a3 : At _ gb [.slice A5 n cg, .slice AE R.length ce, .int .i64 0, .int .i64 0] 44 := a2.set 2 (.int .i64 0)
      have a4 : At _ gb [.slice A5 n cg, .slice AE R.length ce, .int .i64 0, .int .i64 0] 44 := a3.set 3 (.int .i64 0)
      have hgw := HG.out.hb
      have o1 := own_beside (i := 3) (u := .int .i64 0) (own_beside (i := 2) (u := .int .i64 0) (own_beside (i := 1) (u := .slice AE R.length ce) (own_beside (i := 0) (u := .slice A5 n cg) HT.out.r1 HG.out.b (by decide)) a1 (by decide)) a2 (by decide)) a3 (by decide)
      have o2 := own_beside (i := 3) (u := .int .i64 0) (own_beside (i := 2) (u := .int .i64 0) (own_beside (i := 1) (u := .slice AE R.length ce) (own_beside (i := 0) (u := .slice A5 n cg) HT.out.r2 HG.out.b (by decide)) a1 (by decide)) a2 (by decide)) a3 (by decide)
      have hbb := (((HT.out.b.setCell (p := ⟨gb, 0, none⟩) hgw (.slice A5 n cg)).setCell (p := ⟨gb, 1, none⟩) hgw (.slice AE R.length ce)).setCell (p := ⟨gb, 2, none⟩) hgw (.int .i64 0)).setCell (p := ⟨gb, 3, none⟩) hgw (.int .i64 0)
      refine bodyPost_ret (results_cell_row rfl _ _ gb 44 #[.slice A5 n cg, .slice AE R.length ce, .int .i64 0, .int .i64 0] (0, 0) _ rfl a4 Try.underlying44 rfl (by kernel_rfl)) rfl ?_
      refine ⟨A5, cg, AE, ce, rfl, (RdI.of_own o1).1, fun i u v hx => ?_, hbb⟩
      have hi : i < R.length := (List.getElem?_eq_some_iff.1 hx).1
      obtain ⟨ge, hge, _, hcc⟩ := cell_flat o2 (by omega)
      have hcs := HXS.out.2 i u v hx
      exact ⟨ge, hge, hcc _ _ hcs.1, hcc _ _ hcs.2⟩

end Go.Proofs.Ythlmffjafeodlaa.Lw
