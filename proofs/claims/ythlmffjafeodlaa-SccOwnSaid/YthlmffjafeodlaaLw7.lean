/- SccRing, walked. -/
import Derived.Test.YthlmffjafeodlaaLw5
import Derived.Test.YthlmffjafeodlaaRing
namespace Go.Proofs.Ythlmffjafeodlaa.Lw
open Go Go.RowKit Go.Proofs.Ythlmffjafeodlaa.Mem Go.Proofs.Ythlmffjafeodlaa.Sl Go.Proofs.Ythlmffjafeodlaa.Scc Go.Proofs.Ythlmffjafeodlaa.Tj Go.Proofs.YthlmffjafeodlaaW.PrintWords Go.Proofs.YthlmffjafeodlaaW.PrintLast Go.Proofs.YthlmffjafeodlaaW.PrintMore
attribute [local go_sem ↓] Go.wp_at_zero Go.wp_at_succ
set_option linter.unusedSimpArgs false
set_option linter.unusedVariables false

/-- Acyclic. -/
theorem acy_rd (w : World) (Av Aa : Option Addr) (cv ca : Nat) (l : List Int) (arcs : List (Int × Int)) (hv : RdI w Av l) (ha : RdA w Aa arcs) (hn : l.length ≤ 999999) (hm : arcs.length ≤ 1000000)
    (k code : Nat) (b : Bool) (hR : acyS l arcs (sorted l) k = some (code, b)) :
    Calls Try.prog 15 #[.slice Av l.length cv, .slice Aa arcs.length ca] w fun e w' => e = .returned (.tuple #[.bool b, .int .i64 (code : Int)]) ∧ Below w.heap.size w w' := by
  refine (acy_calls w Av Aa cv ca _ l arcs (code, b) hv ha (by omega) hm hR).mono ?_
  rintro e w' ⟨hb, he⟩
  exact ⟨he, hb⟩

def tb6_10.T10 : Bool × List (List Nat × List Nat) := (true, [([], []), ([], []), ([], []), ([1, 2], [1, 2]), ([3], [3]), ([], []), ([], []), ([6], [6]), ([], []), ([8], [8]), ([7, 9], [7, 9]), ([5, 10], [5, 10]), ([11], [11]), ([4, 12], [4, 12]), ([13], [13]), ([0, 14], [0, 14]), ([15, 15, 0, 1, 2, 3, 4, 5, 6, 7, 8, 9, 10, 11, 12, 13, 14, 15], [0, 15])])
def tb6_10.B10 : List Nat := [0, 0, 0, 6, 14, 0, 0, 64, 0, 256, 960, 2016, 4064, 8190, 16382, 32767, 65535]
theorem tb6_10.tab10 : rtab .any (opsOf Try.f6 10) = tb6_10.T10 := by kernel_rfl
theorem tb6_10.bits10 : waitsOk tb6_10.T10.2 tb6_10.B10 = true := by kernel_rfl
def tb6_23.T23 : Bool × List (List Nat × List Nat) := (true, [([], []), ([0], [0]), ([1], [1]), ([], []), ([3], [3]), ([4], [4]), ([5], [5]), ([6], [6]), ([2, 7], [2, 7]), ([8, 0, 1, 2, 3, 4, 5, 6, 7, 8], [8])])
def tb6_23.B23 : List Nat := [0, 1, 3, 0, 8, 24, 56, 120, 255, 511]
theorem tb6_23.tab23 : rtab .any (opsOf Try.f6 23) = tb6_23.T23 := by kernel_rfl
theorem tb6_23.bits23 : waitsOk tb6_23.T23.2 tb6_23.B23 = true := by kernel_rfl
set_option maxHeartbeats 8000000 in
set_option maxRecDepth 100000 in
theorem ring_calls (w : World) (a1 a2 : Value) (l : List Int) (arcs : List (Int × Int)) (h1 : ArgV w a1 l.length 1 (ints l)) (h2 : ArgV w a2 arcs.length 2 (arcs2 arcs)) :
    Calls Try.prog 6 #[a1, a2] w fun e w' => e = .returned (.bool true) ∧ Below w.heap.size w w' := by
  obtain ⟨i2, hi2, hz2, hs2, hy2⟩ := info_parts info_arc
  have HH := Lib.hid (And.intro h1 h2)
  clear h1 h2
  go_enter Try.func6, Try.ntmps6
  go_wp2_with fail
  refine (awake_calls _).mono ?_
  rintro e w1 ⟨rfl, hb1⟩
  have HB := Lib.hid hb1
  clear hb1
  go_wp2_with fail
  refine (cut2_calls w1 a1 a2 l arcs (HH.out.1.below HB.out) (HH.out.2.below HB.out)).mono ?_
  clear HH
  rintro e w2 ⟨v1, v2, rfl, hT⟩
  obtain ⟨L, hL⟩ : ∃ L, l.take 60 = L := ⟨_, rfl⟩
  obtain ⟨R, hR⟩ : ∃ R, arcs.take 240 = R := ⟨_, rfl⟩
  have hLn : L.length ≤ 60 := by rw [← hL, List.length_take]; omega
  have hRn : R.length ≤ 240 := by rw [← hR, List.length_take]; omega
  rw [hL, hR] at hT
  obtain ⟨A1, c1, rfl⟩ := own_slice hT.r1
  obtain ⟨A2, c2, rfl⟩ := own_slice hT.r2
  have HT := Lib.hid hT
  clear hT hL hR l arcs
  obtain ⟨ls, hof, hz, h0⟩ := ofS_ends (l := L) (arcs := R) (k := 1000) (sorted_length L) (sorted_rising L) (by omega) (by omega)
  obtain ⟨code, hcode⟩ : ∃ code, codeV (sorted L) R = code := ⟨_, rfl⟩
  rw [hcode] at hof hz h0
  have HO := Lib.hid hof
  have HZ := Lib.hid hz
  have HC := Lib.hid hcode
  clear hof hz h0 hcode
  go_wp2_with fail
  refine (of_rd w2 A1 A2 c1 c2 L R (RdI.of_own HT.out.r1).1 (RdA.of_own HT.out.r2).1 (by omega) (by omega) 1000 code ls HO.out HZ.out).mono ?_
  rintro e w3 ⟨B1, d1, rfl, _, hb3⟩
  have HT3 := Lib.hid (HT.out.below hb3)
  clear HT hb3 HO HZ
  by_cases hc0 : code = 0
  · subst hc0
    cases L with
    | nil =>
      have hR0 : R = [] := by
        have hg := (codeV_zero HC.out).2
        cases R with
        | nil => rfl
        | cons p r =>
          have := (good_iff.1 hg p List.mem_cons_self).1
          have hn : sorted [] = [] := by simp [sorted]
          rw [hn] at this
          simp at this
      subst hR0
      clear HC
      go_wp2
      go_ret
      have hb := HB.out.trans (HT3.out.b.mono HB.out.size)
      exact ⟨rfl, ⟨hb.os, hb.tape, hb.output, hb.size, hb.block⟩⟩
    | cons x0 L0 =>
      obtain ⟨L, hL⟩ : ∃ L, x0 :: L0 = L := ⟨_, rfl⟩
      have hne : L ≠ [] := by rw [← hL]; simp
      rw [hL] at HC HT3 hLn ⊢
      clear hL x0 L0
      obtain ⟨p1, p2, p3⟩ := ring_plain L R hLn hRn hne HC.out
      obtain ⟨hd, hg⟩ := codeV_zero HC.out
      have hsl := lt_of_nodup (sorted_rising L) hd
      have hpos : 0 < L.length := List.length_pos_iff.2 hne
      have P1 := Lib.hid p1
      have P2 := Lib.hid p2
      have P3 := Lib.hid p3
      have HSL := Lib.hid hsl
      have HNE := Lib.hid hne
      clear p1 p2 p3 hd hg hsl HC hne
      have e0 : ((L.length : Int) == 0) = false := beq_eq_false_iff_ne.2 (by omega)
      go_wp2_with fail
      go_loopg [1, 7, 45] L.length (fun kq v1 v7 v45 w' => ∃ j : Nat, v45 = .int .i64 (j : Int) ∧ Hid (j + kq = L.length ∧ Two w1 3 1 (.slice A1 L.length c1) L.length (ints L) 34 2 v1 (R ++ ringA L j).length (arcs2 (R ++ ringA L j)) w'))
      case atStart => exact ⟨0, rfl, Lib.hid ⟨by omega, by have := HT3.out; rw [show ringA L 0 = [] from rfl, List.append_nil]; exact this⟩⟩
      case round =>
        clear HT3
        obtain ⟨j, rfl, hI⟩ := hrel
        obtain ⟨hjk, hT⟩ := hI.out
        clear hI
        by_cases hj : j < L.length
        · obtain ⟨k1, rfl⟩ : ∃ k1, gk = k1 + 1 := ⟨gk - 1, by omega⟩
          obtain ⟨q, hq⟩ : ∃ q, (j + 1) % L.length = q := ⟨_, rfl⟩
          have hqn : q < L.length := by rw [← hq]; exact Nat.mod_lt _ hpos
          obtain ⟨x, hx⟩ : ∃ x, L[j]? = some x := ⟨_, List.getElem?_eq_getElem hj⟩
          obtain ⟨y, hy⟩ : ∃ y, L[q]? = some y := ⟨_, List.getElem?_eq_getElem hqn⟩
          obtain ⟨b1, rfl, cx⟩ := (RdI.of_own hT.r1).1 j x hx
          obtain ⟨b2, hb2, cy⟩ := (RdI.of_own hT.r1).1 q y hy
          cases hb2
          have hsn : ringA L (j + 1) = ringA L j ++ [(x, y)] := by
            rw [ringA_succ, hq, List.getD_eq_getElem?_getD, List.getD_eq_getElem?_getD, hx, hy]; rfl
          have hlen : (R ++ ringA L j).length ≤ 300 := by rw [List.length_append, ringA_length]; omega
          have j0 : (0 : Int) ≤ (j : Int) := by omega
          have j1 : (j : Int) < (L.length : Int) := by omega
          have j2 : (L.length : Int) ≤ 60 := by omega
          have q0 : (0 : Int) ≤ (q : Int) := by omega
          have q1 : (q : Int) < (L.length : Int) := by omega
          have hnl : ¬ L = [] := HNE.out
          have e3 : wrap64 ((j : Int) + 1) = (j : Int) + 1 := by unfold wrap64; omega
          have e2 : ((j : Int) + 1).tmod (L.length : Int) = (q : Int) := by
            rw [Int.tmod_eq_emod_of_nonneg (by omega), ← hq]; rfl
          have HT := Lib.hid hT
          have HSN := Lib.hid hsn
          have HJ := Lib.hid hjk
          clear hT hjk hx hy hq hsn
          go_upto_region 10 with (fail)
          refine start_ (n := 17) (S := fun w' => w'.cell? ⟨b1, j, none⟩ = some (.int .i64 x) ∧ w'.cell? ⟨b1, q, none⟩ = some (.int .i64 y)) (ds := [15]) #[false, false, false, false, false, false, false, false, false, false, false, false, false, false, false, false, false] (by kernel_rfl) rfl rfl ⟨cx, cy⟩ (fun hHeld => ?_)
          refine with_tabW tb6_10.tab10 tb6_10.bits10 (fun HT_ HW_ => ?_)
          refine pure_ (i := 0) (N := some 48) (v := ?_) (a' := ?_) #[true, false, false, false, false, false, false, false, false, false, false, false, false, false, false, false, false] rfl rfl (any_of HT_.out (by kernel_rfl)) (fun _ _ _ h => h) (Or.inl ⟨by rfl, ?_⟩) ?_ ?_
          rotate_left
          · intro w'
            go_simp
            with_reducible rfl
          rotate_left
          · simp only [Act.put, List.setIfInBounds_toArray, List.set_cons_zero, List.set_cons_succ, i64_w, i32_w]
            rfl
          refine pure_ (i := 1) (N := some 49) (v := ?_) (a' := ?_) #[true, true, false, false, false, false, false, false, false, false, false, false, false, false, false, false, false] rfl rfl (any_of HT_.out (by kernel_rfl)) (fun _ _ _ h => h) (Or.inl ⟨by rfl, ?_⟩) ?_ ?_
          rotate_left
          · intro w'
            go_simp
            with_reducible rfl
          rotate_left
          · simp only [Act.put, List.setIfInBounds_toArray, List.set_cons_zero, List.set_cons_succ, i64_w, i32_w]
            rfl
          refine pure_ (i := 2) (N := some 50) (v := ?_) (a' := ?_) #[true, true, true, false, false, false, false, false, false, false, false, false, false, false, false, false, false] rfl rfl (any_of HT_.out (by kernel_rfl)) (fun _ _ _ h => h) (Or.inl ⟨by rfl, ?_⟩) ?_ ?_
          rotate_left
          · intro w'
            go_simp
            with_reducible rfl
          rotate_left
          · simp only [Act.put, List.setIfInBounds_toArray, List.set_cons_zero, List.set_cons_succ, i64_w, i32_w]
            rfl
          refine pure_ (i := 3) (N := some 51) (v := ?_) (a' := ?_) #[true, true, true, true, false, false, false, false, false, false, false, false, false, false, false, false, false] rfl rfl (any_of HT_.out (by kernel_rfl)) (fun _ _ _ h => h) (Or.inl ⟨by rfl, ?_⟩) ?_ ?_
          rotate_left
          · intro w'
            go_simp
            with_reducible rfl
          rotate_left
          · simp only [Act.put, List.setIfInBounds_toArray, List.set_cons_zero, List.set_cons_succ, i64_w, i32_w]
            rfl
          refine pure_ (i := 5) (N := some 53) (v := ?_) (a' := ?_) #[true, true, true, true, false, true, false, false, false, false, false, false, false, false, false, false, false] rfl rfl (any_of HT_.out (by kernel_rfl)) (fun _ _ _ h => h) (Or.inl ⟨by rfl, ?_⟩) ?_ ?_
          rotate_left
          · intro w'
            go_simp
            with_reducible rfl
          rotate_left
          · simp only [Act.put, List.setIfInBounds_toArray, List.set_cons_zero, List.set_cons_succ, i64_w, i32_w]
            rfl
          refine pure_ (i := 6) (N := some 54) (v := ?_) (a' := ?_) #[true, true, true, true, false, true, true, false, false, false, false, false, false, false, false, false, false] rfl rfl (any_of HT_.out (by kernel_rfl)) (fun _ _ _ h => h) (Or.inl ⟨by rfl, ?_⟩) ?_ ?_
          rotate_left
          · intro w'
            go_simp
            with_reducible rfl
          rotate_left
          · simp only [Act.put, List.setIfInBounds_toArray, List.set_cons_zero, List.set_cons_succ, i64_w, i32_w]
            rfl
          refine pure_ (i := 7) (N := some 55) (v := ?_) (a' := ?_) #[true, true, true, true, false, true, true, true, false, false, false, false, false, false, false, false, false] rfl rfl (any_of HT_.out (by kernel_rfl)) (fun _ _ _ h => h) (Or.inl ⟨by rfl, ?_⟩) ?_ ?_
          rotate_left
          · intro w'
            go_simp
            with_reducible rfl
          rotate_left
          · simp only [Act.put, List.setIfInBounds_toArray, List.set_cons_zero, List.set_cons_succ, i64_w, i32_w]
            rfl
          refine pure_ (i := 8) (N := some 56) (v := ?_) (a' := ?_) #[true, true, true, true, false, true, true, true, true, false, false, false, false, false, false, false, false] rfl rfl (any_of HT_.out (by kernel_rfl)) (fun _ _ _ h => h) (Or.inl ⟨by rfl, ?_⟩) ?_ ?_
          rotate_left
          · intro w'
            go_simp
            with_reducible rfl
          rotate_left
          · simp only [Act.put, List.setIfInBounds_toArray, List.set_cons_zero, List.set_cons_succ, i64_w, i32_w]
            rfl
          refine pure_ (i := 9) (N := some 57) (v := ?_) (a' := ?_) #[true, true, true, true, false, true, true, true, true, true, false, false, false, false, false, false, false] rfl rfl (any_of HT_.out (by kernel_rfl)) (fun _ _ _ h => h) (Or.inl ⟨by rfl, ?_⟩) ?_ ?_
          rotate_left
          · intro w'
            go_simp
            with_reducible rfl
          rotate_left
          · simp only [Act.put, List.setIfInBounds_toArray, List.set_cons_zero, List.set_cons_succ, i64_w, i32_w]
            rfl
          refine pure_ (i := 10) (N := some 58) (v := ?_) (a' := ?_) #[true, true, true, true, false, true, true, true, true, true, true, false, false, false, false, false, false] rfl rfl (any_of HT_.out (by kernel_rfl)) (fun _ _ _ h => h) (Or.inl ⟨by rfl, ?_⟩) ?_ ?_
          rotate_left
          · intro w'
            go_simp
            with_reducible rfl
          rotate_left
          · simp only [Act.put, List.setIfInBounds_toArray, List.set_cons_zero, List.set_cons_succ, i64_w, i32_w]
            rfl
          refine pure_ (i := 11) (N := some 59) (v := ?_) (a' := ?_) #[true, true, true, true, false, true, true, true, true, true, true, true, false, false, false, false, false] rfl rfl (any_of HT_.out (by kernel_rfl)) (fun _ _ _ h => h) (Or.inl ⟨by rfl, ?_⟩) ?_ ?_
          rotate_left
          · intro w'
            go_simp
            with_reducible rfl
          rotate_left
          · simp only [Act.put, List.setIfInBounds_toArray, List.set_cons_zero, List.set_cons_succ, i64_w, i32_w]
            rfl
          refine take_ (i := 4) (N := some 52) (v := ?_) (a' := ?_) #[true, true, true, true, true, true, true, true, true, true, true, true, false, false, false, false, false] rfl rfl (take_ofW HT_.out HW_.out (by kernel_rfl)) (fun _ _ _ h => h) (Or.inl ⟨by rfl, ?_⟩) hHeld ?_ ?_
          rotate_left
          · rintro w' ⟨s0, s1⟩
            go_simp
            with_reducible rfl
          rotate_left
          · simp only [Act.put, List.setIfInBounds_toArray, List.set_cons_zero, List.set_cons_succ, i64_w, i32_w]
            rfl
          refine take_ (i := 12) (N := some 60) (v := ?_) (a' := ?_) #[true, true, true, true, true, true, true, true, true, true, true, true, true, false, false, false, false] rfl rfl (take_ofW HT_.out HW_.out (by kernel_rfl)) (fun _ _ _ h => h) (Or.inl ⟨by rfl, ?_⟩) hHeld ?_ ?_
          rotate_left
          · rintro w' ⟨s0, s1⟩
            go_simp
            with_reducible rfl
          rotate_left
          · simp only [Act.put, List.setIfInBounds_toArray, List.set_cons_zero, List.set_cons_succ, i64_w, i32_w]
            rfl
          refine pure_ (i := 13) (N := some 61) (v := ?_) (a' := ?_) #[true, true, true, true, true, true, true, true, true, true, true, true, true, true, false, false, false] rfl rfl (any_of HT_.out (by kernel_rfl)) (fun _ _ _ h => h) (Or.inl ⟨by rfl, ?_⟩) ?_ ?_
          rotate_left
          · intro w'
            go_simp
            with_reducible rfl
          rotate_left
          · simp only [Act.put, List.setIfInBounds_toArray, List.set_cons_zero, List.set_cons_succ, i64_w, i32_w]
            rfl
          refine one_ (i := 14) (N := some 62) #[true, true, true, true, true, true, true, true, true, true, true, true, true, true, true, false, false] rfl rfl (one_of HT_.out (by kernel_rfl)) (by decide) (fun K hK => ?_)
          refine value_ (w1 := ?_) (v := ?_) (by rfl) rfl ?_ ?_
          rotate_left 2
          · go_simp
            constructor
            · rfl
            · rfl
          refine hK.out _ _ ⟨(cell_al (w := wr.drew) cx _), (cell_al (w := wr.drew) cy _)⟩ (fun hHeld => ?_)
          clear hK K
          refine norm_ (a' := ?_) ?_ ?_
          rotate_left
          · show Act.put _ (some 62) _ = _
            simp only [Act.put, List.setIfInBounds_toArray, List.set_cons_zero, List.set_cons_succ, i64_w, i32_w]
            rfl
          refine last_ (i := 15) (N := some 63) #[true, true, true, true, true, true, true, true, true, true, true, true, true, true, true, true, false] rfl rfl (one_of HT_.out (by kernel_rfl)) (by decide) (fun K hK => ?_)
          refine step_append_any rfl (.tmp 48) (.tmp 62) 23 rfl w1.heap.size 34 i2 (.agg #[.int .i64 0, .int .i64 0]) 2 16 Try.underlying23 hi2 hz2 hs2 hy2 rfl (by omega) _ _ _ rfl (HT.out.r2.drew.alloc (.cells #[.int .i64 x, .int .i64 y] 34)) _ rfl 1 [.int .i64 x, .int .i64 y] (RdV.lit wr.drew #[.int .i64 x, .int .i64 y] 34 1 2 1 rfl (by simp [Value.oneCell'])) (by unfold maxLen; omega) (by omega) (by have := HT.out.b.size; simp; omega) ?_
          intro v7 w7 ho hg hn
          have htwo := (HT.out.below (Below.drAl wr (.cells #[.int .i64 x, .int .i64 y] 34))).grow2 ho hg hn
          have HT7 := Lib.hid htwo
          clear ho hg hn htwo HT
          refine hK.out _ _ ?_
          clear hK K
          refine norm_ (a' := ?_) ?_ ?_
          rotate_left
          · show Act.put _ (some 63) _ = _
            simp only [Act.put, List.setIfInBounds_toArray, List.set_cons_zero, List.set_cons_succ, i64_w, i32_w]
            rfl
          refine pure_ (i := 16) (N := some 1) (v := ?_) (a' := ?_) #[true, true, true, true, true, true, true, true, true, true, true, true, true, true, true, true, true] rfl rfl (any_of HT_.out (by kernel_rfl)) (fun _ _ _ h => h) (Or.inl ⟨by rfl, ?_⟩) ?_ ?_
          rotate_left
          · intro w'
            go_simp
            with_reducible rfl
          rotate_left
          · simp only [Act.put, List.setIfInBounds_toArray, List.set_cons_zero, List.set_cons_succ, i64_w, i32_w]
            rfl
          refine done_ (done_of HT_.out (by kernel_rfl)) ?_
          clear hHeld HT_ HW_
          clear cx cy
          go_wp2
          go_roundg k1
          case measure => have := HJ.out; omega
          case rel =>
            refine ⟨j + 1, by go_num, Lib.hid ⟨by have := HJ.out; omega, ?_⟩⟩
            rw [HSN.out, ← List.append_assoc, arcs2_append, List.length_append]
            exact HT7.out
        · obtain rfl : j = L.length := by omega
          obtain ⟨R2, hR2⟩ : ∃ R2, R ++ ringA L L.length = R2 := ⟨_, rfl⟩
          have hRl : R2.length ≤ 300 := by rw [← hR2, List.length_append, ringA_length]; omega
          rw [hR2] at P1 P2 P3 hT
          obtain ⟨A7, c7, rfl⟩ := own_slice hT.r2
          have HV := Lib.hid (RdI.of_own hT.r1).1
          have HA := Lib.hid (RdA.of_own hT.r2).1
          have HB3 := Lib.hid (HB.out.trans (hT.b.mono HB.out.size))
          clear hT hjk hj HB hR2
          go_wp2_with fail
          refine (of_rd wr A1 A7 c1 c7 L R2 HV.out HA.out (by omega) (by omega) 1000 0 _ P1.out (fun h => absurd rfl h)).mono ?_
          rintro e wa ⟨B1, d1, rfl, hr1, hb1⟩
          have HR1 := Lib.hid hr1
          have HB4 := Lib.hid hb1
          clear hr1 hb1
          go_wp2_with fail
          refine (order_rd wa A1 A7 c1 c7 L R2 (HV.out.below HB4.out) (HA.out.below HB4.out) (by omega) (by omega) 1000 0 _ P2.out (fun h => absurd rfl h)).mono ?_
          rintro e wb ⟨B2, d2, rfl, hr2, hb2⟩
          have HR2 := Lib.hid hr2
          have HR12 := Lib.hid (HR1.out.below hb2)
          have HB5 := Lib.hid (HB4.out.trans (hb2.mono HB4.out.size))
          clear hr2 hb2 HR1 HB4
          go_wp2_with fail
          refine (acy_rd wb A1 A7 c1 c7 L R2 (HV.out.below HB5.out) (HA.out.below HB5.out) (by omega) (by omega) 1000 0 _ P3.out).mono ?_
          rintro e wc ⟨rfl, hb3⟩
          have HR3 := Lib.hid (RdI.below HR2.out hb3)
          have hr1 := HR12.out.below hb3
          have HB6 := Lib.hid (HB3.out.trans ((HB5.out.trans (hb3.mono HB5.out.size)).mono HB3.out.size))
          clear hb3 HR2 HR12 HB5 HB3 HV HA P1 P2 P3
          obtain ⟨sl, hsl⟩ : ∃ sl, sorted L = sl := ⟨_, rfl⟩
          have hsln : sl.length = L.length := by rw [← hsl, sorted_length]
          rw [hsl] at HR3 hr1 HSL
          obtain ⟨b1, X1, d3, rfl, cl, hrx⟩ := hr1 0 sl rfl
          rw [hsln] at cl
          obtain ⟨z, hz⟩ : ∃ z, sl[0]? = some z := ⟨_, List.getElem?_eq_getElem (by omega)⟩
          have hzd : sl.headD 0 = z := by cases sl with | nil => simp at hz | cons a r => simpa using hz
          rw [hzd] at HR3
          obtain ⟨bo, rfl, co⟩ := HR3.out 0 z rfl
          obtain ⟨b3, rfl, c0⟩ := hrx 0 z hz
          have HRX := Lib.hid hrx
          have HZ := Lib.hid hz
          clear hr1 hrx hz HR3 hzd hsl
          have n0 : ((L.length : Int) != (L.length : Int)) = false := by rw [bne, beq_self_eq_true]; rfl
          obtain ⟨n, hn⟩ : ∃ n, L.length = n := ⟨_, rfl⟩
          rw [hn] at n0 e0 cl hsln hLn hpos ⊢
          clear hn HNE
          go_wp2_with fail
          go_loopg [13, 14, 119] n (fun kq v13 v14 v119 w' => ∃ j : Nat, v119 = .int .i64 (j : Int) ∧ Hid (j + kq = n ∧ w' = wc))
          case atStart => exact ⟨0, rfl, Lib.hid ⟨by omega, rfl⟩⟩
          case round =>
            obtain ⟨j, rfl, hI⟩ := hrel
            obtain ⟨hjk, hw⟩ := hI.out
            subst hw
            clear hI
            by_cases hj : j < n
            · obtain ⟨k1, rfl⟩ : ∃ k1, gk = k1 + 1 := ⟨gk - 1, by omega⟩
              obtain ⟨x, hx⟩ : ∃ x, sl[j]? = some x := ⟨_, List.getElem?_eq_getElem (by omega)⟩
              obtain ⟨_, hb3, cx⟩ := HRX.out j x hx
              cases hb3
              have j0 : (0 : Int) ≤ (j : Int) := by omega
              have j1 : (j : Int) < (n : Int) := by omega
              have j2 : (n : Int) ≤ 60 := by omega
              have hlt : ∀ i y, i < j → sl[i]? = some y → y < x := fun i y hij hy => by
                obtain ⟨hjl, hxe⟩ := List.getElem?_eq_some_iff.1 hx
                obtain ⟨hil, hye⟩ := List.getElem?_eq_some_iff.1 hy
                have := List.pairwise_iff_getElem.1 HSL.out i j hil hjl hij
                omega
              cases j with
              | zero =>
                have hz := HZ.out
                rw [hx] at hz
                cases hz
                have e3 : decide (z < z) = false := by simp
                have HJ := Lib.hid hjk
                clear hjk hx hlt hj
                go_wp2
                go_roundg k1
                case measure => have := HJ.out; omega
                case rel => exact ⟨1, by go_num, Lib.hid ⟨by have := HJ.out; omega, rfl⟩⟩
              | succ i =>
                obtain ⟨y, hy⟩ : ∃ y, sl[i]? = some y := ⟨_, List.getElem?_eq_getElem (by omega)⟩
                obtain ⟨_, hb3, cy⟩ := HRX.out i y hy
                cases hb3
                have hyx := hlt i y (by omega) hy
                have hzx := hlt 0 z (by omega) HZ.out
                have e3 : decide (x < z) = false := by simp; omega
                have e4 : decide (x ≤ y) = false := by simp; omega
                have e5 : wrap64 (((i + 1 : Nat) : Int) - 1) = (i : Int) := by unfold wrap64; omega
                have HJ := Lib.hid hjk
                clear hjk hx hy hlt hj
                go_wp2
                go_roundg k1
                case measure => have := HJ.out; omega
                case rel => exact ⟨i + 1 + 1, by go_num, Lib.hid ⟨by have := HJ.out; omega, rfl⟩⟩
            · have j0 : (n : Int) ≤ (j : Int) := by omega
              have hjn : j = n := by omega
              subst hjn
              clear hjk hj
              go_upto_region 23 with (fail)
              refine start_ (n := 10) (S := fun w' => w'.cell? ⟨bo, 0, none⟩ = some (.int .i64 z) ∧ w'.cell? ⟨b1, 0, none⟩ = some (.slice (some ⟨b3, 0, none⟩) j d3) ∧ w'.cell? ⟨b3, 0, none⟩ = some (.int .i64 z)) (ds := []) #[false, false, false, false, false, false, false, false, false, false] (by kernel_rfl) rfl rfl ⟨co, cl, c0⟩ (fun hHeld => ?_)
              refine with_tabW tb6_23.tab23 tb6_23.bits23 (fun HT_ HW_ => ?_)
              refine pure_ (i := 0) (N := some 145) (v := ?_) (a' := ?_) #[true, false, false, false, false, false, false, false, false, false] rfl rfl (any_of HT_.out (by kernel_rfl)) (fun _ _ _ h => h) (Or.inl ⟨by rfl, ?_⟩) ?_ ?_
              rotate_left
              · intro w'
                go_simp
                with_reducible rfl
              rotate_left
              · simp only [Act.put, List.setIfInBounds_toArray, List.set_cons_zero, List.set_cons_succ, i64_w, i32_w]
                rfl
              refine pure_ (i := 1) (N := some 146) (v := ?_) (a' := ?_) #[true, true, false, false, false, false, false, false, false, false] rfl rfl (any_of HT_.out (by kernel_rfl)) (fun _ _ _ h => h) (Or.inl ⟨by rfl, ?_⟩) ?_ ?_
              rotate_left
              · intro w'
                go_simp
                with_reducible rfl
              rotate_left
              · simp only [Act.put, List.setIfInBounds_toArray, List.set_cons_zero, List.set_cons_succ, i64_w, i32_w]
                rfl
              refine pure_ (i := 3) (N := some 148) (v := ?_) (a' := ?_) #[true, true, false, true, false, false, false, false, false, false] rfl rfl (any_of HT_.out (by kernel_rfl)) (fun _ _ _ h => h) (Or.inl ⟨by rfl, ?_⟩) ?_ ?_
              rotate_left
              · intro w'
                go_simp
                with_reducible rfl
              rotate_left
              · simp only [Act.put, List.setIfInBounds_toArray, List.set_cons_zero, List.set_cons_succ, i64_w, i32_w]
                rfl
              refine pure_ (i := 4) (N := some 149) (v := ?_) (a' := ?_) #[true, true, false, true, true, false, false, false, false, false] rfl rfl (any_of HT_.out (by kernel_rfl)) (fun _ _ _ h => h) (Or.inl ⟨by rfl, ?_⟩) ?_ ?_
              rotate_left
              · intro w'
                go_simp
                with_reducible rfl
              rotate_left
              · simp only [Act.put, List.setIfInBounds_toArray, List.set_cons_zero, List.set_cons_succ, i64_w, i32_w]
                rfl
              refine take_ (i := 2) (N := some 147) (v := ?_) (a' := ?_) #[true, true, true, true, true, false, false, false, false, false] rfl rfl (take_ofW HT_.out HW_.out (by kernel_rfl)) (fun _ _ _ h => h) (Or.inl ⟨by rfl, ?_⟩) hHeld ?_ ?_
              rotate_left
              · rintro w' ⟨s0, s1, s2⟩
                go_simp
                with_reducible rfl
              rotate_left
              · simp only [Act.put, List.setIfInBounds_toArray, List.set_cons_zero, List.set_cons_succ, i64_w, i32_w]
                rfl
              refine take_ (i := 5) (N := some 150) (v := ?_) (a' := ?_) #[true, true, true, true, true, true, false, false, false, false] rfl rfl (take_ofW HT_.out HW_.out (by kernel_rfl)) (fun _ _ _ h => h) (Or.inl ⟨by rfl, ?_⟩) hHeld ?_ ?_
              rotate_left
              · rintro w' ⟨s0, s1, s2⟩
                go_simp
                with_reducible rfl
              rotate_left
              · simp only [Act.put, List.setIfInBounds_toArray, List.set_cons_zero, List.set_cons_succ, i64_w, i32_w]
                rfl
              refine pure_ (i := 6) (N := some 151) (v := ?_) (a' := ?_) #[true, true, true, true, true, true, true, false, false, false] rfl rfl (any_of HT_.out (by kernel_rfl)) (fun _ _ _ h => h) (Or.inl ⟨by rfl, ?_⟩) ?_ ?_
              rotate_left
              · intro w'
                go_simp
                with_reducible rfl
              rotate_left
              · simp only [Act.put, List.setIfInBounds_toArray, List.set_cons_zero, List.set_cons_succ, i64_w, i32_w]
                rfl
              refine take_ (i := 7) (N := some 152) (v := ?_) (a' := ?_) #[true, true, true, true, true, true, true, true, false, false] rfl rfl (take_ofW HT_.out HW_.out (by kernel_rfl)) (fun _ _ _ h => h) (Or.inl ⟨by rfl, ?_⟩) hHeld ?_ ?_
              rotate_left
              · rintro w' ⟨s0, s1, s2⟩
                go_simp
                with_reducible rfl
              rotate_left
              · simp only [Act.put, List.setIfInBounds_toArray, List.set_cons_zero, List.set_cons_succ, i64_w, i32_w]
                rfl
              refine pure_ (i := 8) (N := some 153) (v := ?_) (a' := ?_) #[true, true, true, true, true, true, true, true, true, false] rfl rfl (any_of HT_.out (by kernel_rfl)) (fun _ _ _ h => h) (Or.inl ⟨by rfl, ?_⟩) ?_ ?_
              rotate_left
              · intro w'
                go_simp
                with_reducible rfl
              rotate_left
              · simp only [Act.put, List.setIfInBounds_toArray, List.set_cons_zero, List.set_cons_succ, i64_w, i32_w]
                rfl
              refine pure_ (i := 9) (N := some 4) (v := ?_) (a' := ?_) #[true, true, true, true, true, true, true, true, true, true] rfl rfl (any_of HT_.out (by kernel_rfl)) (fun _ _ _ h => h) (Or.inl ⟨by rfl, ?_⟩) ?_ ?_
              rotate_left
              · intro w'
                go_simp
                with_reducible rfl
              rotate_left
              · simp only [Act.put, List.setIfInBounds_toArray, List.set_cons_zero, List.set_cons_succ, i64_w, i32_w]
                rfl
              refine done_ (done_of HT_.out (by kernel_rfl)) ?_
              clear hHeld HT_ HW_
              go_wp2
              go_ret
              have hb := HB6.out
              exact ⟨rfl, ⟨hb.os, hb.tape, hb.output, hb.size, hb.block⟩⟩
  · have e0 : ((code : Int) == 0) = false := beq_eq_false_iff_ne.2 (by omega)
    have e1 : ((code : Int) != 0) = true := by rw [bne, e0]; rfl
    clear HC
    go_wp2
    go_ret
    have hb := HB.out.trans (HT3.out.b.mono HB.out.size)
    exact ⟨rfl, ⟨hb.os, hb.tape, hb.output, hb.size, hb.block⟩⟩

end Go.Proofs.Ythlmffjafeodlaa.Lw
