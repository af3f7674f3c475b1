/- SccTurned, walked. -/
import Derived.Test.YthlmffjafeodlaaLw5
namespace Go.Proofs.Ythlmffjafeodlaa.Lw
open Go Go.RowKit Go.Proofs.Ythlmffjafeodlaa.Mem Go.Proofs.Ythlmffjafeodlaa.Sl Go.Proofs.Ythlmffjafeodlaa.Scc Go.Proofs.Ythlmffjafeodlaa.Tj Go.Proofs.YthlmffjafeodlaaW.PrintWords Go.Proofs.YthlmffjafeodlaaW.PrintLast Go.Proofs.YthlmffjafeodlaaW.PrintMore
attribute [local go_sem ↓] Go.wp_at_zero Go.wp_at_succ
set_option linter.unusedSimpArgs false
set_option linter.unusedVariables false

def tb4_13.T13 : Bool × List (List Nat × List Nat) := (true, [([], []), ([], []), ([], []), ([1, 2], [1, 2]), ([3], [3]), ([], []), ([], []), ([5, 6], [5, 6]), ([7], [7]), ([4, 8], [4, 8]), ([0, 9], [0, 9]), ([10, 10, 0, 1, 2, 3, 4, 5, 6, 7, 8, 9, 10], [0, 10])])
def tb4_13.B13 : List Nat := [0, 0, 0, 6, 14, 0, 0, 96, 224, 510, 1023, 2047]
theorem tb4_13.tab13 : rtab .any (opsOf Try.f4 13) = tb4_13.T13 := by kernel_rfl
theorem tb4_13.bits13 : waitsOk tb4_13.T13.2 tb4_13.B13 = true := by kernel_rfl
def tb4_14.T14 : Bool × List (List Nat × List Nat) := (true, [([], []), ([], []), ([], []), ([1, 2], [1, 2]), ([3], [3]), ([4], [4]), ([], []), ([], []), ([6, 7], [6, 7]), ([8], [8]), ([9], [9]), ([5, 10], [5, 10]), ([11], [11]), ([0, 12], [0, 12]), ([13, 13, 0, 1, 2, 3, 4, 5, 6, 7, 8, 9, 10, 11, 12, 13], [0, 13])])
def tb4_14.B14 : List Nat := [0, 0, 0, 6, 14, 30, 0, 0, 192, 448, 960, 2046, 4094, 8191, 16383]
theorem tb4_14.tab14 : rtab .any (opsOf Try.f4 14) = tb4_14.T14 := by kernel_rfl
theorem tb4_14.bits14 : waitsOk tb4_14.T14.2 tb4_14.B14 = true := by kernel_rfl
set_option maxHeartbeats 8000000 in
set_option maxRecDepth 100000 in
theorem turned_calls (w : World) (a1 a2 : Value) (l : List Int) (arcs : List (Int × Int)) (h1 : ArgV w a1 l.length 1 (ints l)) (h2 : ArgV w a2 arcs.length 2 (arcs2 arcs)) :
    Calls Try.prog 4 #[a1, a2] w fun e w' => e = .returned (.bool true) ∧ Below w.heap.size w w' := by
  obtain ⟨i1, hi1, hz1, hs1, hy1⟩ := info_parts info_int
  obtain ⟨i2, hi2, hz2, hs2, hy2⟩ := info_parts info_arc
  have HH := Lib.hid (And.intro h1 h2)
  clear h1 h2
  go_enter Try.func4, Try.ntmps4
  go_wp2_with fail
  refine (awake_calls _).mono ?_
  rintro e w1 ⟨rfl, hb1⟩
  have HB := Lib.hid hb1
  clear hb1
  go_wp2_with fail
  refine (cut2_calls w1 a1 a2 l arcs (HH.out.1.below HB.out) (HH.out.2.below HB.out)).mono ?_
  clear HH
  rintro e w2 ⟨v1, v2, rfl, hT⟩
  obtain ⟨L, hL⟩ : ∃ L, l.take 60 = L := ⟨_, rfl⟩
  obtain ⟨R, hR⟩ : ∃ R, arcs.take 240 = R := ⟨_, rfl⟩
  have hLn : L.length ≤ 60 := by rw [← hL, List.length_take]; omega
  have hRn : R.length ≤ 240 := by rw [← hR, List.length_take]; omega
  rw [hL, hR] at hT
  obtain ⟨A1, c1, rfl⟩ := own_slice hT.r1
  obtain ⟨A2, c2, rfl⟩ := own_slice hT.r2
  have hv := (RdI.of_own hT.r1).1
  have ha := (RdA.of_own hT.r2).1
  have HV := Lib.hid hv
  have HA := Lib.hid ha
  have HB2 := Lib.hid (HB.out.trans (hT.b.mono HB.out.size))
  clear hT hv ha HB hL hR l arcs
  have e1 : wrap64 ((L.length : Int) - 1) = (L.length : Int) - 1 := by unfold wrap64; omega
  go_wp2_with fail
  go_loopg [5, 8] L.length (fun kq v5 v8 w' => ∃ q : Int, v8 = .int .i64 q ∧ q = (kq : Int) - 1 ∧ Hid (One w2 3 1 v5 (L.drop kq).reverse.length (ints (L.drop kq).reverse) w' ∧ kq ≤ L.length))
  case atStart => exact ⟨_, rfl, rfl, Lib.hid ⟨by rw [List.drop_length]; exact One.start, Nat.le_refl _⟩⟩
  case round =>
    clear e1
    obtain ⟨q, rfl, hq, hI⟩ := hrel
    obtain ⟨hO, hkl⟩ := hI.out
    clear hI
    cases gk with
    | zero =>
      obtain rfl : q = -1 := by omega
      rw [List.drop_zero] at hO
      obtain ⟨A5, c5, rfl⟩ := own_slice hO.r
      have HV5 := Lib.hid (RdI.of_own hO.r).1
      have HV3 := Lib.hid (HV.out.below hO.b)
      have HA3 := Lib.hid (HA.out.below hO.b)
      have HB3 := Lib.hid (HB2.out.trans (hO.b.mono HB2.out.size))
      clear hO hq hkl HV HA HB2
      have e1 : wrap64 ((R.length : Int) - 1) = (R.length : Int) - 1 := by unfold wrap64; omega
      obtain ⟨w3, hw3⟩ : ∃ w3, wr = w3 := ⟨_, rfl⟩
      rw [hw3] at HV5 HV3 HA3 HB3 ⊢
      clear hw3 wr
      go_wp2_with fail
      go_loopg [6, 7, 9] R.length (fun kq v6 v7 v9 w' => ∃ q : Int, v9 = .int .i64 q ∧ q = (kq : Int) - 1 ∧ Hid (Two w3 34 2 v6 (twiceA (R.drop kq).reverse).length (arcs2 (twiceA (R.drop kq).reverse)) 34 2 v7 ((R.drop kq).reverse.map swapA).length (arcs2 ((R.drop kq).reverse.map swapA)) w' ∧ kq ≤ R.length))
      case atStart => exact ⟨_, rfl, rfl, Lib.hid ⟨by rw [List.drop_length]; exact Two.startAt (Below.refl _ _), Nat.le_refl _⟩⟩
      case round =>
        clear e1
        obtain ⟨q, rfl, hq, hI⟩ := hrel
        obtain ⟨hT, hkl⟩ := hI.out
        clear hI
        cases gk with
        | zero =>
          obtain rfl : q = -1 := by omega
          rw [List.drop_zero] at hT
          obtain ⟨A6, c6, rfl⟩ := own_slice hT.r1
          obtain ⟨A7, c7, rfl⟩ := own_slice hT.r2
          have HV4 := Lib.hid (HV3.out.below hT.b)
          have HA4 := Lib.hid (HA3.out.below hT.b)
          have HV6 := Lib.hid (HV5.out.below hT.b)
          have HA6 := Lib.hid (RdA.of_own hT.r1).1
          have HA7 := Lib.hid (RdA.of_own hT.r2).1
          have HB4 := Lib.hid (HB3.out.trans (hT.b.mono HB3.out.size))
          obtain ⟨code, ls, ts, p1, p2, p3, p4, p5, z1, z2, n1, n2, n3⟩ := turned_plain L R hLn hRn
          have P1 := Lib.hid p1
          have P2 := Lib.hid p2
          have P3 := Lib.hid p3
          have P4 := Lib.hid p4
          have P5 := Lib.hid p5
          have Z1 := Lib.hid z1
          have Z2 := Lib.hid z2
          have N1 := Lib.hid n1
          have N2 := Lib.hid n2
          have N3 := Lib.hid n3
          have HT7 := Lib.hid (show (twiceA R.reverse).length ≤ 480 by rw [twiceA_length, List.length_reverse]; omega)
          have HS7 := Lib.hid (show (R.reverse.map swapA).length ≤ 240 by rw [List.length_map, List.length_reverse]; omega)
          have HW7 := Lib.hid (show L.reverse.length ≤ 60 by rw [List.length_reverse]; omega)
          obtain ⟨L5, hL5⟩ : ∃ L5, L.reverse = L5 := ⟨_, rfl⟩
          obtain ⟨R6, hR6⟩ : ∃ R6, twiceA R.reverse = R6 := ⟨_, rfl⟩
          obtain ⟨R7, hR7⟩ : ∃ R7, R.reverse.map swapA = R7 := ⟨_, rfl⟩
          rw [hL5, hR6] at P2 P5
          rw [hR7] at P3 HA7 HS7
          rw [hR6] at HA6 HT7
          rw [hL5] at HV6 HW7
          rw [hL5, hR6, hR7]
          clear hL5 hR6 hR7
          clear hT HV3 HA3 HV5 HB3 hq hkl p1 p2 p3 p4 p5 z1 z2 n1 n2 n3
          go_wp2_with fail
          refine (of_rd wr A1 A2 c1 c2 L R HV4.out HA4.out (by omega) (by omega) 1000 code ls P1.out Z1.out).mono ?_
          rintro e wa ⟨B1, d1, rfl, hr1, hb1⟩
          have HR1 := Lib.hid hr1
          have HB5 := Lib.hid hb1
          clear hr1 hb1
          go_wp2_with fail
          refine (of_rd wa A5 A6 c5 c6 L5 R6 (HV6.out.below HB5.out) (HA6.out.below HB5.out) (by have := HW7.out; omega) (by have := HT7.out; omega) 1000 code ls P2.out Z1.out).mono ?_
          rintro e wb ⟨B2, d2, rfl, hr2, hb2⟩
          have HR2 := Lib.hid hr2
          have HB6 := Lib.hid (HB5.out.trans (hb2.mono HB5.out.size))
          have HR12 := Lib.hid (HR1.out.below hb2)
          clear hr2 hb2 HR1
          go_wp2_with fail
          refine (of_rd wb A1 A7 c1 c7 L R7 (HV4.out.below HB6.out) (HA7.out.below HB6.out) (by omega) (by have := HS7.out; omega) 1000 code ls P3.out Z1.out).mono ?_
          rintro e wc ⟨B3, d3, rfl, hr3, hb3⟩
          have HR3 := Lib.hid hr3
          have HB7 := Lib.hid (HB6.out.trans (hb3.mono HB6.out.size))
          have HR13 := Lib.hid (HR12.out.below hb3)
          have HR23 := Lib.hid (HR2.out.below hb3)
          clear hr3 hb3 HR12 HR2 HB5 HB6
          go_wp2_with fail
          refine (order_rd wc A1 A2 c1 c2 L R (HV4.out.below HB7.out) (HA4.out.below HB7.out) (by omega) (by omega) 1000 code ts P4.out Z2.out).mono ?_
          rintro e wd ⟨B4, d4, rfl, hr4, hb4⟩
          have HR4 := Lib.hid hr4
          have HB8 := Lib.hid (HB7.out.trans (hb4.mono HB7.out.size))
          have HR14 := Lib.hid (HR13.out.below hb4)
          have HR24 := Lib.hid (HR23.out.below hb4)
          have HR34 := Lib.hid (HR3.out.below hb4)
          clear hr4 hb4 HR13 HR23 HR3 HB7
          go_wp2_with fail
          refine (order_rd wd A5 A6 c5 c6 L5 R6 (HV6.out.below HB8.out) (HA6.out.below HB8.out) (by have := HW7.out; omega) (by have := HT7.out; omega) 1000 code ts P5.out Z2.out).mono ?_
          rintro e we ⟨B5, d5, rfl, hr5, hb5⟩
          have HR5 := Lib.hid hr5
          have HB9 := Lib.hid (HB8.out.trans (hb5.mono HB8.out.size))
          have HR15 := Lib.hid (HR14.out.below hb5)
          have HR25 := Lib.hid (HR24.out.below hb5)
          have HR35 := Lib.hid (HR34.out.below hb5)
          have HR45 := Lib.hid (HR4.out.below hb5)
          clear hr5 hb5 HR14 HR24 HR34 HR4 HB8
          go_wp2_with fail
          refine (sameLists_calls _ B1 B2 d1 d2 ls ls HR15.out HR25.out (by have := N1.out; omega) (fun r hr => by have := N2.out r hr; omega)).mono ?_
          rintro e wf ⟨rfl, q1, rfl⟩
          rw [decide_eq_true (rfl : ls = ls)]
          go_wp2_with fail
          refine (sameLists_calls _ B1 B3 d1 d3 ls ls (RdL.drewN HR15.out q1) (RdL.drewN HR35.out q1) (by have := N1.out; omega) (fun r hr => by have := N2.out r hr; omega)).mono ?_
          rintro e wf ⟨rfl, q2, rfl⟩
          rw [decide_eq_true (rfl : ls = ls)]
          go_wp2_with fail
          refine (sameInts_calls _ B4 B5 d4 d5 ts ts (RdI.drewN HR45.out (q1 + q2)) (RdI.drewN HR5.out (q1 + q2)) (by have := N3.out; omega)).mono ?_
          rintro e wf ⟨rfl, q3, rfl⟩
          rw [decide_eq_true (rfl : ts = ts)]
          go_wp2
          go_ret
          have hb := HB4.out.trans (HB9.out.mono HB4.out.size)
          exact ⟨rfl, ⟨hb.os, hb.tape, hb.output, hb.size, hb.block⟩⟩
        | succ i =>
          obtain rfl : q = (i : Int) := by omega
          have hx : R[i]? = some R[i] := List.getElem?_eq_getElem (by omega)
          obtain ⟨⟨u, v⟩, hxx⟩ : ∃ x, R[i] = x := ⟨_, rfl⟩
          rw [hxx] at hx
          obtain ⟨b2, rfl, cu, cv⟩ := (HA3.out.below hT.b) i u v hx
          have hrev := drop_rev (l := R) (i := i) (by omega)
          rw [hxx] at hrev
          have j0 : (0 : Int) ≤ (i : Int) := by omega
          have j1 : (i : Int) < (R.length : Int) := by omega
          have j2 : (R.length : Int) ≤ 240 := by omega
          have hlt : (twiceA (R.drop (i + 1)).reverse).length ≤ 480 := by rw [twiceA_length, List.length_reverse, List.length_drop]; omega
          have hls : ((R.drop (i + 1)).reverse.map swapA).length ≤ 240 := by rw [List.length_map, List.length_reverse, List.length_drop]; omega
          have HT := Lib.hid hT
          have HR := Lib.hid hrev
          have HX := Lib.hid hx
          clear hT hkl hrev hxx hx hq
          go_upto_region 13 with (fail)
          refine start_ (n := 12) (S := fun w' => w'.cell? ⟨b2, i * 2, none⟩ = some (.int .i64 u) ∧ w'.cell? ⟨b2, i * 2 + 1, none⟩ = some (.int .i64 v)) (ds := [10]) #[false, false, false, false, false, false, false, false, false, false, false, false] (by kernel_rfl) rfl rfl ⟨cu, cv⟩ (fun hHeld => ?_)
          refine with_tabW tb4_13.tab13 tb4_13.bits13 (fun HT_ HW_ => ?_)
          refine pure_ (i := 0) (N := some 49) (v := ?_) (a' := ?_) #[true, false, false, false, false, false, false, false, false, false, false, false] rfl rfl (any_of HT_.out (by kernel_rfl)) (fun _ _ _ h => h) (Or.inl ⟨by rfl, ?_⟩) ?_ ?_
          rotate_left
          · intro w'
            go_simp
            with_reducible rfl
          rotate_left
          · simp only [Act.put, List.setIfInBounds_toArray, List.set_cons_zero, List.set_cons_succ, i64_w, i32_w]
            rfl
          refine pure_ (i := 1) (N := some 50) (v := ?_) (a' := ?_) #[true, true, false, false, false, false, false, false, false, false, false, false] rfl rfl (any_of HT_.out (by kernel_rfl)) (fun _ _ _ h => h) (Or.inl ⟨by rfl, ?_⟩) ?_ ?_
          rotate_left
          · intro w'
            go_simp
            with_reducible rfl
          rotate_left
          · simp only [Act.put, List.setIfInBounds_toArray, List.set_cons_zero, List.set_cons_succ, i64_w, i32_w]
            rfl
          refine pure_ (i := 2) (N := some 51) (v := ?_) (a' := ?_) #[true, true, true, false, false, false, false, false, false, false, false, false] rfl rfl (any_of HT_.out (by kernel_rfl)) (fun _ _ _ h => h) (Or.inl ⟨by rfl, ?_⟩) ?_ ?_
          rotate_left
          · intro w'
            go_simp
            with_reducible rfl
          rotate_left
          · simp only [Act.put, List.setIfInBounds_toArray, List.set_cons_zero, List.set_cons_succ, i64_w, i32_w]
            rfl
          refine pure_ (i := 3) (N := some 52) (v := ?_) (a' := ?_) #[true, true, true, true, false, false, false, false, false, false, false, false] rfl rfl (any_of HT_.out (by kernel_rfl)) (fun _ _ _ h => h) (Or.inl ⟨by rfl, ?_⟩) ?_ ?_
          rotate_left
          · intro w'
            go_simp
            with_reducible rfl
          rotate_left
          · simp only [Act.put, List.setIfInBounds_toArray, List.set_cons_zero, List.set_cons_succ, i64_w, i32_w]
            rfl
          refine pure_ (i := 5) (N := some 54) (v := ?_) (a' := ?_) #[true, true, true, true, false, true, false, false, false, false, false, false] rfl rfl (any_of HT_.out (by kernel_rfl)) (fun _ _ _ h => h) (Or.inl ⟨by rfl, ?_⟩) ?_ ?_
          rotate_left
          · intro w'
            go_simp
            with_reducible rfl
          rotate_left
          · simp only [Act.put, List.setIfInBounds_toArray, List.set_cons_zero, List.set_cons_succ, i64_w, i32_w]
            rfl
          refine pure_ (i := 6) (N := some 55) (v := ?_) (a' := ?_) #[true, true, true, true, false, true, true, false, false, false, false, false] rfl rfl (any_of HT_.out (by kernel_rfl)) (fun _ _ _ h => h) (Or.inl ⟨by rfl, ?_⟩) ?_ ?_
          rotate_left
          · intro w'
            go_simp
            with_reducible rfl
          rotate_left
          · simp only [Act.put, List.setIfInBounds_toArray, List.set_cons_zero, List.set_cons_succ, i64_w, i32_w]
            rfl
          refine pure_ (i := 7) (N := some 56) (v := ?_) (a' := ?_) #[true, true, true, true, false, true, true, true, false, false, false, false] rfl rfl (any_of HT_.out (by kernel_rfl)) (fun _ _ _ h => h) (Or.inl ⟨by rfl, ?_⟩) ?_ ?_
          rotate_left
          · intro w'
            go_simp
            with_reducible rfl
          rotate_left
          · simp only [Act.put, List.setIfInBounds_toArray, List.set_cons_zero, List.set_cons_succ, i64_w, i32_w]
            rfl
          refine take_ (i := 4) (N := some 53) (v := ?_) (a' := ?_) #[true, true, true, true, true, true, true, true, false, false, false, false] rfl rfl (take_ofW HT_.out HW_.out (by kernel_rfl)) (fun _ _ _ h => h) (Or.inl ⟨by rfl, ?_⟩) hHeld ?_ ?_
          rotate_left
          · rintro w' ⟨s0, s1⟩
            go_simp
            with_reducible rfl
          rotate_left
          · simp only [Act.put, List.setIfInBounds_toArray, List.set_cons_zero, List.set_cons_succ, i64_w, i32_w]
            rfl
          refine take_ (i := 8) (N := some 57) (v := ?_) (a' := ?_) #[true, true, true, true, true, true, true, true, true, false, false, false] rfl rfl (take_ofW HT_.out HW_.out (by kernel_rfl)) (fun _ _ _ h => h) (Or.inl ⟨by rfl, ?_⟩) hHeld ?_ ?_
          rotate_left
          · rintro w' ⟨s0, s1⟩
            go_simp
            with_reducible rfl
          rotate_left
          · simp only [Act.put, List.setIfInBounds_toArray, List.set_cons_zero, List.set_cons_succ, i64_w, i32_w]
            rfl
          refine one_ (i := 9) (N := some 58) #[true, true, true, true, true, true, true, true, true, true, false, false] rfl rfl (one_of HT_.out (by kernel_rfl)) (by decide) (fun K hK => ?_)
          refine value_ (w1 := ?_) (v := ?_) (by rfl) rfl ?_ ?_
          rotate_left 2
          · go_simp
            constructor
            · rfl
            · rfl
          refine hK.out _ _ ⟨(cell_al (w := wr.drew) cu _), (cell_al (w := wr.drew) cv _)⟩ (fun hHeld => ?_)
          clear hK K
          refine norm_ (a' := ?_) ?_ ?_
          rotate_left
          · show Act.put _ (some 58) _ = _
            simp only [Act.put, List.setIfInBounds_toArray, List.set_cons_zero, List.set_cons_succ, i64_w, i32_w]
            rfl
          refine last_ (i := 10) (N := some 59) #[true, true, true, true, true, true, true, true, true, true, true, false] rfl rfl (one_of HT_.out (by kernel_rfl)) (by decide) (fun K hK => ?_)
          refine step_append_any rfl (.tmp 49) (.tmp 58) 23 rfl w3.heap.size 34 i2 (.agg #[.int .i64 0, .int .i64 0]) 2 16 Try.underlying23 hi2 hz2 hs2 hy2 rfl (by omega) _ _ _ rfl (HT.out.r1.drew.alloc (.cells #[.int .i64 u, .int .i64 v, .int .i64 u, .int .i64 v] 34)) _ rfl 2 [.int .i64 u, .int .i64 v, .int .i64 u, .int .i64 v] (RdV.lit wr.drew #[.int .i64 u, .int .i64 v, .int .i64 u, .int .i64 v] 34 2 2 2 rfl (by simp [Value.oneCell'])) (by unfold maxLen; omega) (by omega) (by have := HT.out.b.size; simp; omega) ?_
          intro v6 w6 ho hg hn
          have htwo := (HT.out.below (Below.drAl wr (.cells #[.int .i64 u, .int .i64 v, .int .i64 u, .int .i64 v] 34))).grow1 ho hg hn
          have HT6 := Lib.hid htwo
          clear ho hg hn htwo HT
          refine hK.out _ _ ?_
          clear hK K
          refine norm_ (a' := ?_) ?_ ?_
          rotate_left
          · show Act.put _ (some 59) _ = _
            simp only [Act.put, List.setIfInBounds_toArray, List.set_cons_zero, List.set_cons_succ, i64_w, i32_w]
            rfl
          refine pure_ (i := 11) (N := some 6) (v := ?_) (a' := ?_) #[true, true, true, true, true, true, true, true, true, true, true, true] rfl rfl (any_of HT_.out (by kernel_rfl)) (fun _ _ _ h => h) (Or.inl ⟨by rfl, ?_⟩) ?_ ?_
          rotate_left
          · intro w'
            go_simp
            with_reducible rfl
          rotate_left
          · simp only [Act.put, List.setIfInBounds_toArray, List.set_cons_zero, List.set_cons_succ, i64_w, i32_w]
            rfl
          refine done_ (done_of HT_.out (by kernel_rfl)) ?_
          clear hHeld HT_ HW_
          obtain ⟨b3, hb3, cu, cv⟩ := (HA3.out.below HT6.out.b) i u v HX.out
          cases hb3
          go_upto_region 14 with (fail)
          refine start_ (n := 15) (S := fun w' => w'.cell? ⟨b2, i * 2, none⟩ = some (.int .i64 u) ∧ w'.cell? ⟨b2, i * 2 + 1, none⟩ = some (.int .i64 v)) (ds := [13]) #[false, false, false, false, false, false, false, false, false, false, false, false, false, false, false] (by kernel_rfl) rfl rfl ⟨cu, cv⟩ (fun hHeld => ?_)
          refine with_tabW tb4_14.tab14 tb4_14.bits14 (fun HT_ HW_ => ?_)
          refine pure_ (i := 0) (N := some 60) (v := ?_) (a' := ?_) #[true, false, false, false, false, false, false, false, false, false, false, false, false, false, false] rfl rfl (any_of HT_.out (by kernel_rfl)) (fun _ _ _ h => h) (Or.inl ⟨by rfl, ?_⟩) ?_ ?_
          rotate_left
          · intro w'
            go_simp
            with_reducible rfl
          rotate_left
          · simp only [Act.put, List.setIfInBounds_toArray, List.set_cons_zero, List.set_cons_succ, i64_w, i32_w]
            rfl
          refine pure_ (i := 1) (N := some 61) (v := ?_) (a' := ?_) #[true, true, false, false, false, false, false, false, false, false, false, false, false, false, false] rfl rfl (any_of HT_.out (by kernel_rfl)) (fun _ _ _ h => h) (Or.inl ⟨by rfl, ?_⟩) ?_ ?_
          rotate_left
          · intro w'
            go_simp
            with_reducible rfl
          rotate_left
          · simp only [Act.put, List.setIfInBounds_toArray, List.set_cons_zero, List.set_cons_succ, i64_w, i32_w]
            rfl
          refine pure_ (i := 2) (N := some 62) (v := ?_) (a' := ?_) #[true, true, true, false, false, false, false, false, false, false, false, false, false, false, false] rfl rfl (any_of HT_.out (by kernel_rfl)) (fun _ _ _ h => h) (Or.inl ⟨by rfl, ?_⟩) ?_ ?_
          rotate_left
          · intro w'
            go_simp
            with_reducible rfl
          rotate_left
          · simp only [Act.put, List.setIfInBounds_toArray, List.set_cons_zero, List.set_cons_succ, i64_w, i32_w]
            rfl
          refine pure_ (i := 3) (N := some 63) (v := ?_) (a' := ?_) #[true, true, true, true, false, false, false, false, false, false, false, false, false, false, false] rfl rfl (any_of HT_.out (by kernel_rfl)) (fun _ _ _ h => h) (Or.inl ⟨by rfl, ?_⟩) ?_ ?_
          rotate_left
          · intro w'
            go_simp
            with_reducible rfl
          rotate_left
          · simp only [Act.put, List.setIfInBounds_toArray, List.set_cons_zero, List.set_cons_succ, i64_w, i32_w]
            rfl
          refine pure_ (i := 4) (N := some 64) (v := ?_) (a' := ?_) #[true, true, true, true, true, false, false, false, false, false, false, false, false, false, false] rfl rfl (any_of HT_.out (by kernel_rfl)) (fun _ _ _ h => h) (Or.inl ⟨by rfl, ?_⟩) ?_ ?_
          rotate_left
          · intro w'
            go_simp
            with_reducible rfl
          rotate_left
          · simp only [Act.put, List.setIfInBounds_toArray, List.set_cons_zero, List.set_cons_succ, i64_w, i32_w]
            rfl
          refine pure_ (i := 6) (N := some 66) (v := ?_) (a' := ?_) #[true, true, true, true, true, false, true, false, false, false, false, false, false, false, false] rfl rfl (any_of HT_.out (by kernel_rfl)) (fun _ _ _ h => h) (Or.inl ⟨by rfl, ?_⟩) ?_ ?_
          rotate_left
          · intro w'
            go_simp
            with_reducible rfl
          rotate_left
          · simp only [Act.put, List.setIfInBounds_toArray, List.set_cons_zero, List.set_cons_succ, i64_w, i32_w]
            rfl
          refine pure_ (i := 7) (N := some 67) (v := ?_) (a' := ?_) #[true, true, true, true, true, false, true, true, false, false, false, false, false, false, false] rfl rfl (any_of HT_.out (by kernel_rfl)) (fun _ _ _ h => h) (Or.inl ⟨by rfl, ?_⟩) ?_ ?_
          rotate_left
          · intro w'
            go_simp
            with_reducible rfl
          rotate_left
          · simp only [Act.put, List.setIfInBounds_toArray, List.set_cons_zero, List.set_cons_succ, i64_w, i32_w]
            rfl
          refine pure_ (i := 8) (N := some 68) (v := ?_) (a' := ?_) #[true, true, true, true, true, false, true, true, true, false, false, false, false, false, false] rfl rfl (any_of HT_.out (by kernel_rfl)) (fun _ _ _ h => h) (Or.inl ⟨by rfl, ?_⟩) ?_ ?_
          rotate_left
          · intro w'
            go_simp
            with_reducible rfl
          rotate_left
          · simp only [Act.put, List.setIfInBounds_toArray, List.set_cons_zero, List.set_cons_succ, i64_w, i32_w]
            rfl
          refine pure_ (i := 9) (N := some 69) (v := ?_) (a' := ?_) #[true, true, true, true, true, false, true, true, true, true, false, false, false, false, false] rfl rfl (any_of HT_.out (by kernel_rfl)) (fun _ _ _ h => h) (Or.inl ⟨by rfl, ?_⟩) ?_ ?_
          rotate_left
          · intro w'
            go_simp
            with_reducible rfl
          rotate_left
          · simp only [Act.put, List.setIfInBounds_toArray, List.set_cons_zero, List.set_cons_succ, i64_w, i32_w]
            rfl
          refine take_ (i := 5) (N := some 65) (v := ?_) (a' := ?_) #[true, true, true, true, true, true, true, true, true, true, false, false, false, false, false] rfl rfl (take_ofW HT_.out HW_.out (by kernel_rfl)) (fun _ _ _ h => h) (Or.inl ⟨by rfl, ?_⟩) hHeld ?_ ?_
          rotate_left
          · rintro w' ⟨s0, s1⟩
            go_simp
            with_reducible rfl
          rotate_left
          · simp only [Act.put, List.setIfInBounds_toArray, List.set_cons_zero, List.set_cons_succ, i64_w, i32_w]
            rfl
          refine take_ (i := 10) (N := some 70) (v := ?_) (a' := ?_) #[true, true, true, true, true, true, true, true, true, true, true, false, false, false, false] rfl rfl (take_ofW HT_.out HW_.out (by kernel_rfl)) (fun _ _ _ h => h) (Or.inl ⟨by rfl, ?_⟩) hHeld ?_ ?_
          rotate_left
          · rintro w' ⟨s0, s1⟩
            go_simp
            with_reducible rfl
          rotate_left
          · simp only [Act.put, List.setIfInBounds_toArray, List.set_cons_zero, List.set_cons_succ, i64_w, i32_w]
            rfl
          refine pure_ (i := 11) (N := some 71) (v := ?_) (a' := ?_) #[true, true, true, true, true, true, true, true, true, true, true, true, false, false, false] rfl rfl (any_of HT_.out (by kernel_rfl)) (fun _ _ _ h => h) (Or.inl ⟨by rfl, ?_⟩) ?_ ?_
          rotate_left
          · intro w'
            go_simp
            with_reducible rfl
          rotate_left
          · simp only [Act.put, List.setIfInBounds_toArray, List.set_cons_zero, List.set_cons_succ, i64_w, i32_w]
            rfl
          refine one_ (i := 12) (N := some 72) #[true, true, true, true, true, true, true, true, true, true, true, true, true, false, false] rfl rfl (one_of HT_.out (by kernel_rfl)) (by decide) (fun K hK => ?_)
          refine value_ (w1 := ?_) (v := ?_) (by rfl) rfl ?_ ?_
          rotate_left 2
          · go_simp
            constructor
            · rfl
            · rfl
          refine hK.out _ _ ⟨(cell_al (w := w6.drew) cu _), (cell_al (w := w6.drew) cv _)⟩ (fun hHeld => ?_)
          clear hK K
          refine norm_ (a' := ?_) ?_ ?_
          rotate_left
          · show Act.put _ (some 72) _ = _
            simp only [Act.put, List.setIfInBounds_toArray, List.set_cons_zero, List.set_cons_succ, i64_w, i32_w]
            rfl
          refine last_ (i := 13) (N := some 73) #[true, true, true, true, true, true, true, true, true, true, true, true, true, true, false] rfl rfl (one_of HT_.out (by kernel_rfl)) (by decide) (fun K hK => ?_)
          refine step_append_any rfl (.tmp 60) (.tmp 72) 23 rfl w3.heap.size 34 i2 (.agg #[.int .i64 0, .int .i64 0]) 2 16 Try.underlying23 hi2 hz2 hs2 hy2 rfl (by omega) _ _ _ rfl (HT6.out.r2.drew.alloc (.cells #[.int .i64 v, .int .i64 u] 34)) _ rfl 1 [.int .i64 v, .int .i64 u] (RdV.lit w6.drew #[.int .i64 v, .int .i64 u] 34 1 2 1 rfl (by simp [Value.oneCell'])) (by unfold maxLen; omega) (by omega) (by have := HT6.out.b.size; simp; omega) ?_
          intro v7 w7 ho hg hn
          have htwo := (HT6.out.below (Below.drAl w6 (.cells #[.int .i64 v, .int .i64 u] 34))).grow2 ho hg hn
          have HT7 := Lib.hid htwo
          clear ho hg hn htwo HT6
          refine hK.out _ _ ?_
          clear hK K
          refine norm_ (a' := ?_) ?_ ?_
          rotate_left
          · show Act.put _ (some 73) _ = _
            simp only [Act.put, List.setIfInBounds_toArray, List.set_cons_zero, List.set_cons_succ, i64_w, i32_w]
            rfl
          refine pure_ (i := 14) (N := some 7) (v := ?_) (a' := ?_) #[true, true, true, true, true, true, true, true, true, true, true, true, true, true, true] rfl rfl (any_of HT_.out (by kernel_rfl)) (fun _ _ _ h => h) (Or.inl ⟨by rfl, ?_⟩) ?_ ?_
          rotate_left
          · intro w'
            go_simp
            with_reducible rfl
          rotate_left
          · simp only [Act.put, List.setIfInBounds_toArray, List.set_cons_zero, List.set_cons_succ, i64_w, i32_w]
            rfl
          refine done_ (done_of HT_.out (by kernel_rfl)) ?_
          clear hHeld HT_ HW_
          clear cu cv
          go_wp2
          go_roundg i
          case measure => omega
          case rel =>
            refine ⟨_, by go_num, rfl, Lib.hid ⟨?_, by omega⟩⟩
            rw [HR.out, twiceA_snoc, List.map_append, arcs2_append, arcs2_append, List.length_append, List.length_append]
            exact HT7.out
    | succ i =>
      obtain rfl : q = (i : Int) := by omega
      have hx : L[i]? = some L[i] := List.getElem?_eq_getElem (by omega)
      obtain ⟨x, hxx⟩ : ∃ x, L[i] = x := ⟨_, rfl⟩
      rw [hxx] at hx
      obtain ⟨b, rfl, hc⟩ := (HV.out.below hO.b) i x hx
      have hrev := drop_rev (l := L) (i := i) (by omega)
      rw [hxx] at hrev
      have j0 : (0 : Int) ≤ (i : Int) := by omega
      have j1 : (i : Int) < (L.length : Int) := by omega
      have j2 : (L.length : Int) ≤ 60 := by omega
      have hle : (L.drop (i + 1)).reverse.length ≤ 60 := by rw [List.length_reverse, List.length_drop]; omega
      have HO := Lib.hid hO
      have HR := Lib.hid hrev
      have HKL := Lib.hid hkl
      clear hO hkl hrev hxx hx hq
      go_wp2_with ((at_builtin; refine wpList_append_any rfl (.tmp 35) (.tmp 40) 22 rfl w2.heap.size 3 i1 (.int .i64 0) 1 8 Try.underlying22 hi1 hz1 hs1 hy1 rfl (by omega) _ _ _ rfl (HO.out.r.alloc (.cells #[.int .i64 x] 3)) _ rfl 1 [.int .i64 x] (RdV.lit wr #[.int .i64 x] 3 1 1 1 rfl (by simp [Value.oneCell'])) (by unfold maxLen; omega) (by omega) (by have := HO.out.b.size; simp; omega) ?_; intro v5' w5 ho hg hn; have hone := (HO.out.below ((Below.refl _ _).alloc (Nat.le_refl _) (.cells #[.int .i64 x] 3))).grow ho hg; have HO5 := Lib.hid hone; clear ho hg hn hone HO))
      go_roundg i
      case measure => omega
      case rel =>
        refine ⟨_, by go_num, rfl, Lib.hid ⟨?_, by have := HKL.out; omega⟩⟩
        rw [HR.out, List.length_append, List.length_singleton, ← ints_snoc]
        exact HO5.out

end Go.Proofs.Ythlmffjafeodlaa.Lw
