/- SccOrders, walked. -/
import Derived.Test.YthlmffjafeodlaaLw7
import Derived.Test.YthlmffjafeodlaaOrd
namespace Go.Proofs.Ythlmffjafeodlaa.Lw
open Go Go.RowKit Go.Proofs.Ythlmffjafeodlaa.Mem Go.Proofs.Ythlmffjafeodlaa.Sl Go.Proofs.Ythlmffjafeodlaa.Scc Go.Proofs.Ythlmffjafeodlaa.Tj Go.Proofs.YthlmffjafeodlaaW.PrintWords Go.Proofs.YthlmffjafeodlaaW.PrintLast Go.Proofs.YthlmffjafeodlaaW.PrintMore
attribute [local go_sem ↓] Go.wp_at_zero Go.wp_at_succ
set_option linter.unusedSimpArgs false
set_option linter.unusedVariables false

theorem take_sum {ls : List (List Int)} {j : Nat} (h : j < ls.length) : ((ls.take (j + 1)).map List.length).sum = ((ls.take j).map List.length).sum + (ls[j]).length := by
  rw [List.take_add_one, List.map_append, List.sum_append, List.getElem?_eq_getElem h]
  simp

/-- The heads of the rows: cells that can be read. -/
theorem RdL.head {w : World} {A : Option Addr} {ls : List (List Int)} (h : RdL w A ls) {i : Nat} (hi : i < ls.length) (hne : ls[i] ≠ []) : ∃ b bb c, A = some ⟨b, 0, none⟩ ∧ w.cell? ⟨b, i, none⟩ = some (.slice (some ⟨bb, 0, none⟩) (ls[i]).length c) ∧ w.cell? ⟨bb, 0, none⟩ = some (.int .i64 ((ls[i]).headD 0)) := by
  obtain ⟨b, B, c, rfl, h1, h2⟩ := h i ls[i] (List.getElem?_eq_getElem hi)
  have h0 : (ls[i])[0]? = some ((ls[i]).headD 0) := by
    cases hr : ls[i] with
    | nil => exact absurd hr hne
    | cons a r => rfl
  obtain ⟨bb, rfl, h3⟩ := h2 0 _ h0
  exact ⟨b, bb, c, rfl, h1, h3⟩

/-- heads and places, and what lies below them as it was. -/
structure HPl (w0 : World) (n : Nat) (W : World) (hs ps : List Nat) : Prop where
  hh : At W w0.heap.size (nats hs) 3
  hp : At W (w0.heap.size + 1) (nats ps) 3
  lh : hs.length = n
  lp : ps.length = n
  b : Below w0.heap.size w0 W
section
variable {w0 W W' : World} {n : Nat} {hs ps : List Nat}
theorem HPl.below (h : HPl w0 n W hs ps) (hb : Below W.heap.size W W') : HPl w0 n W' hs ps := ⟨h.hh.below hb h.hh.lt, h.hp.below hb h.hp.lt, h.lh, h.lp, h.b.trans (hb.mono h.b.size)⟩
theorem HPl.drewN (h : HPl w0 n W hs ps) (q : Nat) : HPl w0 n (W.drewN q) hs ps := ⟨h.hh, h.hp, h.lh, h.lp, ⟨h.b.os, h.b.tape, h.b.output, h.b.size, h.b.block⟩⟩
theorem HPl.drew (h : HPl w0 n W hs ps) : HPl w0 n W.drew hs ps := h.drewN 1
theorem HPl.setH (h : HPl w0 n W hs ps) (i x : Nat) : HPl w0 n (W.setCell ⟨w0.heap.size, i, none⟩ (.int .i64 (x : Int))) (hs.set i x) ps :=
  ⟨h.hh.put (nats_set _ _ _).symm, h.hp.off (by omega), by simpa using h.lh, h.lp, h.b.setCell (Nat.le_refl _) _⟩
theorem HPl.setP (h : HPl w0 n W hs ps) (i x : Nat) : HPl w0 n (W.setCell ⟨w0.heap.size + 1, i, none⟩ (.int .i64 (x : Int))) hs (ps.set i x) :=
  ⟨h.hh.off (by omega), h.hp.put (nats_set _ _ _).symm, h.lh, by simpa using h.lp, h.b.setCell (Nat.le_succ _) _⟩
theorem HPl.start (w0 : World) (n : Nat) : HPl w0 n ((w0.alloc (.cells (madeCells #[.int .i64 0] n) 3)).alloc (.cells (madeCells #[.int .i64 0] n) 3)) (List.replicate n 0) (List.replicate n 0) :=
  ⟨(At.made rfl (made_nats n)).al, At.made (by simp) (made_nats n), by simp, by simp, ((Below.refl _ _).alloc (Nat.le_refl _) _).alloc (by simp) _⟩
end

theorem keep_cell {w w' : World} {a : Addr} {v : Value} (hb : Below w.heap.size w w') (hc : w.cell? a = some v) : w'.cell? a = some v := (hb.cell (World.block_lt_of_cell? w _ hc)).trans hc

/-- Amid the search for an arc's places: the row's entries so far. -/
def Amid (j : Nat) (ts : List Int) (hu hv : Int) (k : Nat) (hs ps : List Nat) : Prop :=
  hs.getD j 0 = lastAt ts hu k ∧ ps.getD j 0 = lastAt ts hv k ∧ ∀ i, j < i → hs.getD i 0 = 0 ∧ ps.getD i 0 = 0
theorem getD_set_eq (l : List Nat) {j x : Nat} (h : j < l.length) : (l.set j x).getD j 0 = x := by simp [List.getD_eq_getElem?_getD, h]
theorem getD_set_ne (l : List Nat) {i j x : Nat} (h : j ≠ i) : (l.set j x).getD i 0 = l.getD i 0 := by simp [List.getD_eq_getElem?_getD, List.getElem?_set_ne h]
/-- One step: h is the k-th in the order. -/
theorem Amid.step {j : Nat} {ts : List Int} {hu hv h : Int} {k : Nat} {hs ps : List Nat} (ha : Amid j ts hu hv k hs ps) (hj : j < hs.length) (hj2 : j < ps.length) (hk : ts.getD k 0 = h) :
    Amid j ts hu hv (k + 1) (if h = hu then hs.set j k else hs) (if h = hv then ps.set j k else ps) := by
  obtain ⟨a, b, c⟩ := ha
  refine ⟨?_, ?_, fun i hi => ⟨?_, ?_⟩⟩
  · rw [lastAt, hk]
    split
    · exact getD_set_eq _ hj
    · exact a
  · rw [lastAt, hk]
    split
    · exact getD_set_eq _ hj2
    · exact b
  · split
    · rw [getD_set_ne _ (by omega)]; exact (c i hi).1
    · exact (c i hi).1
  · split
    · rw [getD_set_ne _ (by omega)]; exact (c i hi).2
    · exact (c i hi).2

def tb3_14.T14 : Bool × List (List Nat × List Nat) := (true, [([], []), ([0], [0]), ([1], [1]), ([2], [2]), ([3], [3]), ([4, 3], [3, 4]), ([5, 3, 3], [3, 5]), ([6], [6]), ([6], [6]), ([8, 6], [6, 8]), ([7, 9, 6], [6, 7, 9]), ([10, 6], [6, 10]), ([11, 6], [6, 11]), ([12, 6], [6, 12]), ([6], [6]), ([14, 6], [6, 14]), ([15, 6], [6, 15]), ([13, 16, 6], [6, 13, 16]), ([6, 17, 3], [3, 6, 17]), ([3, 18], [3, 18])])
def tb3_14.B14 : List Nat := [0, 1, 3, 7, 15, 31, 63, 127, 127, 383, 1023, 2047, 4095, 8191, 127, 16511, 49279, 131071, 262143, 524287]
theorem tb3_14.tab14 : rtab .any (opsOf Try.f3 14) = tb3_14.T14 := by kernel_rfl
theorem tb3_14.bits14 : waitsOk tb3_14.T14.2 tb3_14.B14 = true := by kernel_rfl
def tb3_23.T23 : Bool × List (List Nat × List Nat) := (true, [([], []), ([], []), ([1], [1]), ([0, 2], [0, 2]), ([], []), ([], []), ([5], [5]), ([4, 6, 3], [4, 6]), ([3, 7, 0, 1, 2, 3], [3]), ([7, 8, 0, 1, 2, 3, 4, 5, 6, 7, 8], [7])])
def tb3_23.B23 : List Nat := [0, 0, 2, 7, 0, 0, 32, 127, 255, 511]
theorem tb3_23.tab23 : rtab .any (opsOf Try.f3 23) = tb3_23.T23 := by kernel_rfl
theorem tb3_23.bits23 : waitsOk tb3_23.T23.2 tb3_23.B23 = true := by kernel_rfl
def tb3_34.T34 : Bool × List (List Nat × List Nat) := (true, [([], []), ([], []), ([0, 1], [0, 1]), ([2], [2]), ([3], [3]), ([3], [3]), ([4, 5, 3], [3, 4, 5]), ([6, 3], [3, 6]), ([3], [3]), ([3], [3]), ([8, 9, 3], [3, 8, 9]), ([10, 3], [3, 10]), ([7, 11, 3], [3, 7, 11]), ([3, 12], [3, 12])])
def tb3_34.B34 : List Nat := [0, 0, 3, 7, 15, 15, 63, 127, 15, 15, 783, 1807, 4095, 8191]
theorem tb3_34.tab34 : rtab .any (opsOf Try.f3 34) = tb3_34.T34 := by kernel_rfl
theorem tb3_34.bits34 : waitsOk tb3_34.T34.2 tb3_34.B34 = true := by kernel_rfl
set_option maxHeartbeats 8000000 in
set_option maxRecDepth 100000 in
theorem orders_calls (w : World) (a1 a2 : Value) (l : List Int) (arcs : List (Int × Int)) (h1 : ArgV w a1 l.length 1 (ints l)) (h2 : ArgV w a2 arcs.length 2 (arcs2 arcs)) :
    Calls Try.prog 3 #[a1, a2] w fun e w' => e = .returned (.bool true) ∧ Below w.heap.size w w' := by
  have HH := Lib.hid (And.intro h1 h2)
  clear h1 h2
  go_enter Try.func3, Try.ntmps3
  go_wp2_with fail
  refine (awake_calls _).mono ?_
  rintro e w1 ⟨rfl, hb1⟩
  have HB := Lib.hid hb1
  clear hb1
  go_wp2_with fail
  refine (cut2_calls w1 a1 a2 l arcs (HH.out.1.below HB.out) (HH.out.2.below HB.out)).mono ?_
  clear HH
  rintro e w2 ⟨v1, v2, rfl, hT⟩
  obtain ⟨L, hL⟩ : ∃ L, l.take 60 = L := ⟨_, rfl⟩
  obtain ⟨R, hR⟩ : ∃ R, arcs.take 240 = R := ⟨_, rfl⟩
  have hLn : L.length ≤ 60 := by rw [← hL, List.length_take]; omega
  have hRn : R.length ≤ 240 := by rw [← hR, List.length_take]; omega
  rw [hL, hR] at hT
  obtain ⟨A1, c1, rfl⟩ := own_slice hT.r1
  obtain ⟨A2, c2, rfl⟩ := own_slice hT.r2
  have HV := Lib.hid (RdI.of_own hT.r1).1
  have HA := Lib.hid (RdA.of_own hT.r2).1
  have HB2 := Lib.hid (HB.out.trans (hT.b.mono HB.out.size))
  clear hT hL hR l arcs HB
  obtain ⟨code, ls, ts, p1, p2, z1, z2, hfine, hls60, hrow60⟩ := order_plain L R hLn hRn
  have P1 := Lib.hid p1
  have P2 := Lib.hid p2
  have Z1 := Lib.hid z1
  have Z2 := Lib.hid z2
  have HF := Lib.hid hfine
  have HRW := Lib.hid hrow60
  clear p1 p2 z1 z2 hfine hrow60
  go_wp2_with fail
  refine (of_rd w2 A1 A2 c1 c2 L R HV.out HA.out (by omega) (by omega) 1000 code ls P1.out Z1.out).mono ?_
  rintro e w3 ⟨B1, d1, rfl, hr1, hb1⟩
  have HR1 := Lib.hid hr1
  have HB3 := Lib.hid hb1
  clear hr1 hb1
  go_wp2_with fail
  refine (order_rd w3 A1 A2 c1 c2 L R (HV.out.below HB3.out) (HA.out.below HB3.out) (by omega) (by omega) 1000 code ts P2.out Z2.out).mono ?_
  rintro e w4 ⟨B2, d2, rfl, hr2, hb2⟩
  have HR2 := Lib.hid hr2
  have HR3 := Lib.hid (HR1.out.below hb2)
  have hb24 := HB3.out.trans (hb2.mono HB3.out.size)
  have HV4 := Lib.hid (HV.out.below hb24)
  have HA4 := Lib.hid (HA.out.below hb24)
  have HB4 := Lib.hid (HB2.out.trans (hb24.mono HB2.out.size))
  clear hr2 hb2 hb24 HR1 HB3 HV HA HB2
  by_cases hc0 : code = 0
  · subst hc0
    have hfine := HF.out rfl
    obtain ⟨m, hm⟩ : ∃ m, ls.length = m := ⟨_, rfl⟩
    have htm : ts.length = m := by rw [hfine.len, hm]
    rw [hm] at hls60
    have HFI := Lib.hid hfine
    have HM := Lib.hid hm
    have HTM := Lib.hid htm
    rw [hm, htm]
    clear hfine HF P1 P2 Z1 Z2 hm htm
    have n0 : ((m : Int) != (m : Int)) = false := by rw [bne, beq_self_eq_true]; rfl
    go_wp2_with fail
    go_loopg [9, 10, 11, 56] m (fun kq v9 v10 v11 v56 w' => ∃ j : Nat, v56 = .int .i64 (j : Int) ∧ v9 = .int .i64 ((((ls.take j).map List.length).sum : Nat) : Int) ∧ Hid (j + kq = m ∧ ∃ q, w' = w4.drewN q))
    case atStart => exact ⟨0, rfl, rfl, Lib.hid ⟨by omega, 0, rfl⟩⟩
    case round =>
      obtain ⟨j, rfl, rfl, hI⟩ := hrel
      obtain ⟨hjk, q, rfl⟩ := hI.out
      clear hI
      by_cases hj : j < m
      · obtain ⟨k1, rfl⟩ : ∃ k1, gk = k1 + 1 := ⟨gk - 1, by omega⟩
        have hjl : j < ls.length := by have := HM.out; omega
        obtain ⟨b, bb, c, rfl, cb, ch0⟩ := (RdL.drewN HR3.out q).head hjl (HFI.out.ne j hjl)
        have hsum := take_sum hjl
        have hn0 : (ls[j]).length ≠ 0 := fun h => HFI.out.ne j hjl (List.length_eq_zero_iff.1 h)
        have hr60 : (ls[j]).length ≤ 60 := HRW.out _ (List.getElem_mem hjl)
        have hs60 : ((ls.take j).map List.length).sum ≤ j * 60 := by
          have : ∀ t : List (List Int), (∀ r ∈ t, r.length ≤ 60) → (t.map List.length).sum ≤ t.length * 60 := by
            intro t
            induction t with
            | nil => intro _; simp
            | cons r t ih =>
              intro hr
              have h1 := ih fun x hx => hr x (List.mem_cons.2 (.inr hx))
              have h2 := hr r List.mem_cons_self
              simp only [List.map_cons, List.sum_cons, List.length_cons]
              omega
          have h1 := this (ls.take j) fun r hr => HRW.out r (List.mem_of_mem_take hr)
          rw [List.length_take] at h1
          have h2 : min j ls.length ≤ j := Nat.min_le_left _ _
          omega
        obtain ⟨s, hs⟩ : ∃ s, ((ls.take j).map List.length).sum = s := ⟨_, rfl⟩
        obtain ⟨n1, hn1⟩ : ∃ n, (ls[j]).length = n := ⟨_, rfl⟩
        obtain ⟨hh, hhh⟩ : ∃ h, (ls[j]).headD 0 = h := ⟨_, rfl⟩
        rw [hs] at hs60 hsum ⊢
        rw [hn1] at cb hsum hn0 hr60
        rw [hhh] at ch0
        have HJ := Lib.hid hjk
        have HSU := Lib.hid hsum
        have j0 : (0 : Int) ≤ (j : Int) := by omega
        have j1 : (j : Int) < (m : Int) := by omega
        have j2 : (m : Int) ≤ 60 := by omega
        have e0 : ((n1 : Int) == 0) = false := beq_eq_false_iff_ne.2 (by omega)
        have e1 : wrap64 ((s : Int) + (n1 : Int)) = ((s + n1 : Nat) : Int) := by unfold wrap64; omega
        cases j with
        | zero =>
          clear hs hsum hjk hj hn1 hhh ch0
          go_upto_region 14 with (fail)
          refine start_ (n := 20) (S := fun w' => True) (ds := []) #[false, false, false, false, false, false, false, false, false, false, false, false, false, false, false, false, false, false, false, false] (by kernel_rfl) rfl rfl trivial (fun hHeld => ?_)
          refine with_tabW tb3_14.tab14 tb3_14.bits14 (fun HT_ HW_ => ?_)
          refine pure_ (i := 0) (N := some 61) (v := ?_) (a' := ?_) #[true, false, false, false, false, false, false, false, false, false, false, false, false, false, false, false, false, false, false, false] rfl rfl (any_of HT_.out (by kernel_rfl)) (fun _ _ _ h => h) (Or.inl ⟨by rfl, ?_⟩) ?_ ?_
          rotate_left
          · intro w'
            go_simp
            with_reducible rfl
          rotate_left
          · simp only [Act.put, List.setIfInBounds_toArray, List.set_cons_zero, List.set_cons_succ, i64_w, i32_w]
            rfl
          refine pure_ (i := 1) (N := some 62) (v := ?_) (a' := ?_) #[true, true, false, false, false, false, false, false, false, false, false, false, false, false, false, false, false, false, false, false] rfl rfl (any_of HT_.out (by kernel_rfl)) (fun _ _ _ h => h) (Or.inl ⟨by rfl, ?_⟩) ?_ ?_
          rotate_left
          · intro w'
            go_simp
            with_reducible rfl
          rotate_left
          · simp only [Act.put, List.setIfInBounds_toArray, List.set_cons_zero, List.set_cons_succ, i64_w, i32_w]
            rfl
          refine pure_ (i := 2) (N := some 63) (v := ?_) (a' := ?_) #[true, true, true, false, false, false, false, false, false, false, false, false, false, false, false, false, false, false, false, false] rfl rfl (any_of HT_.out (by kernel_rfl)) (fun _ _ _ h => h) (Or.inl ⟨by rfl, ?_⟩) ?_ ?_
          rotate_left
          · intro w'
            go_simp
            with_reducible rfl
          rotate_left
          · simp only [Act.put, List.setIfInBounds_toArray, List.set_cons_zero, List.set_cons_succ, i64_w, i32_w]
            rfl
          refine pure_ (i := 3) (N := some 64) (v := ?_) (a' := ?_) #[true, true, true, true, false, false, false, false, false, false, false, false, false, false, false, false, false, false, false, false] rfl rfl (any_of HT_.out (by kernel_rfl)) (fun _ _ _ h => h) (Or.inl ⟨by rfl, ?_⟩) ?_ ?_
          rotate_left
          · intro w'
            go_simp
            with_reducible rfl
          rotate_left
          · simp only [Act.put, List.setIfInBounds_toArray, List.set_cons_zero, List.set_cons_succ, i64_w, i32_w]
            rfl
          refine pure_ (i := 4) (N := some 65) (v := ?_) (a' := ?_) #[true, true, true, true, true, false, false, false, false, false, false, false, false, false, false, false, false, false, false, false] rfl rfl (any_of HT_.out (by kernel_rfl)) (fun _ _ _ h => h) (Or.inl ⟨by rfl, ?_⟩) ?_ ?_
          rotate_left
          · intro w'
            go_simp
            with_reducible rfl
          rotate_left
          · simp only [Act.put, List.setIfInBounds_toArray, List.set_cons_zero, List.set_cons_succ, i64_w, i32_w]
            rfl
          refine pure_ (i := 5) (N := some 66) (v := ?_) (a' := ?_) #[true, true, true, true, true, true, false, false, false, false, false, false, false, false, false, false, false, false, false, false] rfl rfl (any_of HT_.out (by kernel_rfl)) (fun _ _ _ h => h) (Or.inl ⟨by rfl, ?_⟩) ?_ ?_
          rotate_left
          · intro w'
            go_simp
            with_reducible rfl
          rotate_left
          · simp only [Act.put, List.setIfInBounds_toArray, List.set_cons_zero, List.set_cons_succ, i64_w, i32_w]
            rfl
          refine pure_ (i := 6) (N := some 67) (v := ?_) (a' := ?_) #[true, true, true, true, true, true, true, false, false, false, false, false, false, false, false, false, false, false, false, false] rfl rfl (any_of HT_.out (by kernel_rfl)) (fun _ _ _ h => h) (Or.inl ⟨by rfl, ?_⟩) ?_ ?_
          rotate_left
          · intro w'
            go_simp
            with_reducible rfl
          rotate_left
          · simp only [Act.put, List.setIfInBounds_toArray, List.set_cons_zero, List.set_cons_succ, i64_w, i32_w]
            rfl
          refine pure_ (i := 7) (N := some 68) (v := undef) (a' := ?_) #[true, true, true, true, true, true, true, true, false, false, false, false, false, false, false, false, false, false, false, false] rfl rfl (any_of HT_.out (by kernel_rfl)) (fun _ _ _ h => h) (Or.inr ⟨by rfl, rfl⟩) ?_ ?_
          rotate_left
          · simp only [Act.put, List.setIfInBounds_toArray, List.set_cons_zero, List.set_cons_succ, i64_w, i32_w]
            rfl
          refine pure_ (i := 8) (N := some 69) (v := undef) (a' := ?_) #[true, true, true, true, true, true, true, true, true, false, false, false, false, false, false, false, false, false, false, false] rfl rfl (any_of HT_.out (by kernel_rfl)) (fun _ _ _ h => h) (Or.inr ⟨by rfl, rfl⟩) ?_ ?_
          rotate_left
          · simp only [Act.put, List.setIfInBounds_toArray, List.set_cons_zero, List.set_cons_succ, i64_w, i32_w]
            rfl
          refine pure_ (i := 9) (N := some 70) (v := undef) (a' := ?_) #[true, true, true, true, true, true, true, true, true, true, false, false, false, false, false, false, false, false, false, false] rfl rfl (any_of HT_.out (by kernel_rfl)) (fun _ _ _ h => h) (Or.inr ⟨by rfl, rfl⟩) ?_ ?_
          rotate_left
          · simp only [Act.put, List.setIfInBounds_toArray, List.set_cons_zero, List.set_cons_succ, i64_w, i32_w]
            rfl
          refine pure_ (i := 10) (N := some 71) (v := undef) (a' := ?_) #[true, true, true, true, true, true, true, true, true, true, true, false, false, false, false, false, false, false, false, false] rfl rfl (any_of HT_.out (by kernel_rfl)) (fun _ _ _ h => h) (Or.inr ⟨by rfl, rfl⟩) ?_ ?_
          rotate_left
          · simp only [Act.put, List.setIfInBounds_toArray, List.set_cons_zero, List.set_cons_succ, i64_w, i32_w]
            rfl
          refine pure_ (i := 11) (N := some 72) (v := undef) (a' := ?_) #[true, true, true, true, true, true, true, true, true, true, true, true, false, false, false, false, false, false, false, false] rfl rfl (any_of HT_.out (by kernel_rfl)) (fun _ _ _ h => h) (Or.inr ⟨by rfl, rfl⟩) ?_ ?_
          rotate_left
          · simp only [Act.put, List.setIfInBounds_toArray, List.set_cons_zero, List.set_cons_succ, i64_w, i32_w]
            rfl
          refine pure_ (i := 12) (N := some 73) (v := undef) (a' := ?_) #[true, true, true, true, true, true, true, true, true, true, true, true, true, false, false, false, false, false, false, false] rfl rfl (any_of HT_.out (by kernel_rfl)) (fun _ _ _ h => h) (Or.inr ⟨by rfl, rfl⟩) ?_ ?_
          rotate_left
          · simp only [Act.put, List.setIfInBounds_toArray, List.set_cons_zero, List.set_cons_succ, i64_w, i32_w]
            rfl
          refine pure_ (i := 13) (N := some 74) (v := undef) (a' := ?_) #[true, true, true, true, true, true, true, true, true, true, true, true, true, true, false, false, false, false, false, false] rfl rfl (any_of HT_.out (by kernel_rfl)) (fun _ _ _ h => h) (Or.inr ⟨by rfl, rfl⟩) ?_ ?_
          rotate_left
          · simp only [Act.put, List.setIfInBounds_toArray, List.set_cons_zero, List.set_cons_succ, i64_w, i32_w]
            rfl
          refine pure_ (i := 14) (N := some 75) (v := undef) (a' := ?_) #[true, true, true, true, true, true, true, true, true, true, true, true, true, true, true, false, false, false, false, false] rfl rfl (any_of HT_.out (by kernel_rfl)) (fun _ _ _ h => h) (Or.inr ⟨by rfl, rfl⟩) ?_ ?_
          rotate_left
          · simp only [Act.put, List.setIfInBounds_toArray, List.set_cons_zero, List.set_cons_succ, i64_w, i32_w]
            rfl
          refine pure_ (i := 15) (N := some 76) (v := undef) (a' := ?_) #[true, true, true, true, true, true, true, true, true, true, true, true, true, true, true, true, false, false, false, false] rfl rfl (any_of HT_.out (by kernel_rfl)) (fun _ _ _ h => h) (Or.inr ⟨by rfl, rfl⟩) ?_ ?_
          rotate_left
          · simp only [Act.put, List.setIfInBounds_toArray, List.set_cons_zero, List.set_cons_succ, i64_w, i32_w]
            rfl
          refine pure_ (i := 16) (N := some 77) (v := undef) (a' := ?_) #[true, true, true, true, true, true, true, true, true, true, true, true, true, true, true, true, true, false, false, false] rfl rfl (any_of HT_.out (by kernel_rfl)) (fun _ _ _ h => h) (Or.inr ⟨by rfl, rfl⟩) ?_ ?_
          rotate_left
          · simp only [Act.put, List.setIfInBounds_toArray, List.set_cons_zero, List.set_cons_succ, i64_w, i32_w]
            rfl
          refine pure_ (i := 17) (N := some 78) (v := undef) (a' := ?_) #[true, true, true, true, true, true, true, true, true, true, true, true, true, true, true, true, true, true, false, false] rfl rfl (any_of HT_.out (by kernel_rfl)) (fun _ _ _ h => h) (Or.inr ⟨by rfl, rfl⟩) ?_ ?_
          rotate_left
          · simp only [Act.put, List.setIfInBounds_toArray, List.set_cons_zero, List.set_cons_succ, i64_w, i32_w]
            rfl
          refine pure_ (i := 18) (N := some 79) (v := ?_) (a' := ?_) #[true, true, true, true, true, true, true, true, true, true, true, true, true, true, true, true, true, true, true, false] rfl rfl (any_of HT_.out (by kernel_rfl)) (fun _ _ _ h => h) (Or.inl ⟨by rfl, ?_⟩) ?_ ?_
          rotate_left
          · intro w'
            go_simp
            with_reducible rfl
          rotate_left
          · simp only [Act.put, List.setIfInBounds_toArray, List.set_cons_zero, List.set_cons_succ, i64_w, i32_w]
            rfl
          refine pure_ (i := 19) (N := some 80) (v := ?_) (a' := ?_) #[true, true, true, true, true, true, true, true, true, true, true, true, true, true, true, true, true, true, true, true] rfl rfl (any_of HT_.out (by kernel_rfl)) (fun _ _ _ h => h) (Or.inl ⟨by rfl, ?_⟩) ?_ ?_
          rotate_left
          · intro w'
            go_simp
            with_reducible rfl
          rotate_left
          · simp only [Act.put, List.setIfInBounds_toArray, List.set_cons_zero, List.set_cons_succ, i64_w, i32_w]
            rfl
          refine done_ (done_of HT_.out (by kernel_rfl)) ?_
          clear hHeld HT_ HW_
          go_wp2
          go_roundg k1
          case measure => have := HJ.out; omega
          case rel =>
            refine ⟨1, by go_num, ?_, Lib.hid ⟨by have := HJ.out; omega, q + 1, rfl⟩⟩
            rw [HSU.out]
            simp
        | succ j =>
          have hjl2 : j < ls.length := by omega
          obtain ⟨b', bp, cp, hbe, cb1, cp0⟩ := (RdL.drewN HR3.out q).head hjl2 (HFI.out.ne j hjl2)
          cases hbe
          have hinc := HFI.out.inc j hjl
          obtain ⟨np, hnp⟩ : ∃ n, (ls[j]).length = n := ⟨_, rfl⟩
          obtain ⟨hp, hhp⟩ : ∃ h, (ls[j]).headD 0 = h := ⟨_, rfl⟩
          rw [hnp] at cb1
          rw [hhp] at cp0
          rw [hhp, hhh] at hinc
          have e3 : decide ((0 : Int) < ((j + 1 : Nat) : Int)) = true := by rw [decide_eq_true_eq]; omega
          have np0 : 0 < np := by rw [← hnp]; exact List.length_pos_iff.2 (HFI.out.ne j hjl2)
          have n10 : 0 < n1 := by omega
          have e5 : decide (hh ≤ hp) = false := by simp; omega
          have k0 : (0 : Int) ≤ (j : Int) := Int.natCast_nonneg _
          have k1' : (j : Int) < (m : Int) := by omega
          have e4 : ∀ x : Nat, x = j → wrap64 (x : Int) = (x : Int) := fun x hx => by subst hx; unfold wrap64; omega
          clear hs hsum hjk hj hn1 hhh hnp hhp hjl hjl2
          go_upto_region 14 with (fail)
          refine start_ (n := 20) (S := fun w' => w'.cell? ⟨b, j, none⟩ = some (.slice (some ⟨bp, 0, none⟩) np cp) ∧ w'.cell? ⟨bp, 0, none⟩ = some (.int .i64 hp) ∧ w'.cell? ⟨bb, 0, none⟩ = some (.int .i64 hh)) (ds := []) #[false, false, false, false, false, false, false, false, false, false, false, false, false, false, false, false, false, false, false, false] (by kernel_rfl) rfl rfl ⟨cb1, cp0, ch0⟩ (fun hHeld => ?_)
          refine with_tabW tb3_14.tab14 tb3_14.bits14 (fun HT_ HW_ => ?_)
          refine pure_ (i := 0) (N := some 61) (v := ?_) (a' := ?_) #[true, false, false, false, false, false, false, false, false, false, false, false, false, false, false, false, false, false, false, false] rfl rfl (any_of HT_.out (by kernel_rfl)) (fun _ _ _ h => h) (Or.inl ⟨by rfl, ?_⟩) ?_ ?_
          rotate_left
          · intro w'
            go_simp
            with_reducible rfl
          rotate_left
          · simp only [Act.put, List.setIfInBounds_toArray, List.set_cons_zero, List.set_cons_succ, i64_w, i32_w]
            rfl
          refine pure_ (i := 1) (N := some 62) (v := ?_) (a' := ?_) #[true, true, false, false, false, false, false, false, false, false, false, false, false, false, false, false, false, false, false, false] rfl rfl (any_of HT_.out (by kernel_rfl)) (fun _ _ _ h => h) (Or.inl ⟨by rfl, ?_⟩) ?_ ?_
          rotate_left
          · intro w'
            go_simp
            with_reducible rfl
          rotate_left
          · simp only [Act.put, List.setIfInBounds_toArray, List.set_cons_zero, List.set_cons_succ, i64_w, i32_w]
            rfl
          refine pure_ (i := 2) (N := some 63) (v := ?_) (a' := ?_) #[true, true, true, false, false, false, false, false, false, false, false, false, false, false, false, false, false, false, false, false] rfl rfl (any_of HT_.out (by kernel_rfl)) (fun _ _ _ h => h) (Or.inl ⟨by rfl, ?_⟩) ?_ ?_
          rotate_left
          · intro w'
            go_simp
            with_reducible rfl
          rotate_left
          · simp only [Act.put, List.setIfInBounds_toArray, List.set_cons_zero, List.set_cons_succ, i64_w, i32_w]
            rfl
          refine pure_ (i := 3) (N := some 64) (v := ?_) (a' := ?_) #[true, true, true, true, false, false, false, false, false, false, false, false, false, false, false, false, false, false, false, false] rfl rfl (any_of HT_.out (by kernel_rfl)) (fun _ _ _ h => h) (Or.inl ⟨by rfl, ?_⟩) ?_ ?_
          rotate_left
          · intro w'
            go_simp
            with_reducible rfl
          rotate_left
          · simp only [Act.put, List.setIfInBounds_toArray, List.set_cons_zero, List.set_cons_succ, i64_w, i32_w]
            rfl
          refine pure_ (i := 4) (N := some 65) (v := ?_) (a' := ?_) #[true, true, true, true, true, false, false, false, false, false, false, false, false, false, false, false, false, false, false, false] rfl rfl (any_of HT_.out (by kernel_rfl)) (fun _ _ _ h => h) (Or.inl ⟨by rfl, ?_⟩) ?_ ?_
          rotate_left
          · intro w'
            go_simp
            with_reducible rfl
          rotate_left
          · simp only [Act.put, List.setIfInBounds_toArray, List.set_cons_zero, List.set_cons_succ, i64_w, i32_w]
            rfl
          refine pure_ (i := 5) (N := some 66) (v := ?_) (a' := ?_) #[true, true, true, true, true, true, false, false, false, false, false, false, false, false, false, false, false, false, false, false] rfl rfl (any_of HT_.out (by kernel_rfl)) (fun _ _ _ h => h) (Or.inl ⟨by rfl, ?_⟩) ?_ ?_
          rotate_left
          · intro w'
            go_simp
            with_reducible rfl
          rotate_left
          · simp only [Act.put, List.setIfInBounds_toArray, List.set_cons_zero, List.set_cons_succ, i64_w, i32_w]
            rfl
          refine pure_ (i := 6) (N := some 67) (v := ?_) (a' := ?_) #[true, true, true, true, true, true, true, false, false, false, false, false, false, false, false, false, false, false, false, false] rfl rfl (any_of HT_.out (by kernel_rfl)) (fun _ _ _ h => h) (Or.inl ⟨by rfl, ?_⟩) ?_ ?_
          rotate_left
          · intro w'
            go_simp
            with_reducible rfl
          rotate_left
          · simp only [Act.put, List.setIfInBounds_toArray, List.set_cons_zero, List.set_cons_succ, i64_w, i32_w]
            rfl
          refine pure_ (i := 7) (N := some 68) (v := ?_) (a' := ?_) #[true, true, true, true, true, true, true, true, false, false, false, false, false, false, false, false, false, false, false, false] rfl rfl (any_of HT_.out (by kernel_rfl)) (fun _ _ _ h => h) (Or.inl ⟨by rfl, ?_⟩) ?_ ?_
          rotate_left
          · intro w'
            go_simp
            with_reducible rfl
          rotate_left
          · simp only [Act.put, List.setIfInBounds_toArray, List.set_cons_zero, List.set_cons_succ, i64_w, i32_w]
            rfl
          refine pure_ (i := 8) (N := some 69) (v := ?_) (a' := ?_) #[true, true, true, true, true, true, true, true, true, false, false, false, false, false, false, false, false, false, false, false] rfl rfl (any_of HT_.out (by kernel_rfl)) (fun _ _ _ h => h) (Or.inl ⟨by rfl, ?_⟩) ?_ ?_
          rotate_left
          · intro w'
            go_simp
            with_reducible rfl
          rotate_left
          · simp only [Act.put, List.setIfInBounds_toArray, List.set_cons_zero, List.set_cons_succ, i64_w, i32_w]
            rfl
          refine pure_ (i := 9) (N := some 70) (v := ?_) (a' := ?_) #[true, true, true, true, true, true, true, true, true, true, false, false, false, false, false, false, false, false, false, false] rfl rfl (any_of HT_.out (by kernel_rfl)) (fun _ _ _ h => h) (Or.inl ⟨by rfl, ?_⟩) ?_ ?_
          rotate_left
          · intro w'
            go_simp
            with_reducible rfl
          rotate_left
          · simp only [Act.put, List.setIfInBounds_toArray, List.set_cons_zero, List.set_cons_succ, i64_w, i32_w]
            rfl
          refine pure_ (i := 10) (N := some 71) (v := ?_) (a' := ?_) #[true, true, true, true, true, true, true, true, true, true, true, false, false, false, false, false, false, false, false, false] rfl rfl (any_of HT_.out (by kernel_rfl)) (fun _ _ _ h => h) (Or.inl ⟨by rfl, ?_⟩) ?_ ?_
          rotate_left
          · intro w'
            go_simp
            with_reducible rfl
          rotate_left
          · simp only [Act.put, List.setIfInBounds_toArray, List.set_cons_zero, List.set_cons_succ, i64_w, i32_w]
            rfl
          refine pure_ (i := 14) (N := some 75) (v := ?_) (a' := ?_) #[true, true, true, true, true, true, true, true, true, true, true, false, false, false, true, false, false, false, false, false] rfl rfl (any_of HT_.out (by kernel_rfl)) (fun _ _ _ h => h) (Or.inl ⟨by rfl, ?_⟩) ?_ ?_
          rotate_left
          · intro w'
            go_simp
            with_reducible rfl
          rotate_left
          · simp only [Act.put, List.setIfInBounds_toArray, List.set_cons_zero, List.set_cons_succ, i64_w, i32_w]
            rfl
          refine pure_ (i := 15) (N := some 76) (v := ?_) (a' := ?_) #[true, true, true, true, true, true, true, true, true, true, true, false, false, false, true, true, false, false, false, false] rfl rfl (any_of HT_.out (by kernel_rfl)) (fun _ _ _ h => h) (Or.inl ⟨by rfl, ?_⟩) ?_ ?_
          rotate_left
          · intro w'
            go_simp
            with_reducible rfl
          rotate_left
          · simp only [Act.put, List.setIfInBounds_toArray, List.set_cons_zero, List.set_cons_succ, i64_w, i32_w]
            rfl
          refine take_ (i := 11) (N := some 72) (v := ?_) (a' := ?_) #[true, true, true, true, true, true, true, true, true, true, true, true, false, false, true, true, false, false, false, false] rfl rfl (take_ofW HT_.out HW_.out (by kernel_rfl)) (fun _ _ _ h => h) (Or.inl ⟨by rfl, ?_⟩) hHeld ?_ ?_
          rotate_left
          · rintro w' ⟨s0, s1, s2⟩
            go_simp
            with_reducible rfl
          rotate_left
          · simp only [Act.put, List.setIfInBounds_toArray, List.set_cons_zero, List.set_cons_succ, i64_w, i32_w]
            rfl
          refine pure_ (i := 12) (N := some 73) (v := ?_) (a' := ?_) #[true, true, true, true, true, true, true, true, true, true, true, true, true, false, true, true, false, false, false, false] rfl rfl (any_of HT_.out (by kernel_rfl)) (fun _ _ _ h => h) (Or.inl ⟨by rfl, ?_⟩) ?_ ?_
          rotate_left
          · intro w'
            go_simp
            with_reducible rfl
          rotate_left
          · simp only [Act.put, List.setIfInBounds_toArray, List.set_cons_zero, List.set_cons_succ, i64_w, i32_w]
            rfl
          refine take_ (i := 13) (N := some 74) (v := ?_) (a' := ?_) #[true, true, true, true, true, true, true, true, true, true, true, true, true, true, true, true, false, false, false, false] rfl rfl (take_ofW HT_.out HW_.out (by kernel_rfl)) (fun _ _ _ h => h) (Or.inl ⟨by rfl, ?_⟩) hHeld ?_ ?_
          rotate_left
          · rintro w' ⟨s0, s1, s2⟩
            go_simp
            with_reducible rfl
          rotate_left
          · simp only [Act.put, List.setIfInBounds_toArray, List.set_cons_zero, List.set_cons_succ, i64_w, i32_w]
            rfl
          refine take_ (i := 16) (N := some 77) (v := ?_) (a' := ?_) #[true, true, true, true, true, true, true, true, true, true, true, true, true, true, true, true, true, false, false, false] rfl rfl (take_ofW HT_.out HW_.out (by kernel_rfl)) (fun _ _ _ h => h) (Or.inl ⟨by rfl, ?_⟩) hHeld ?_ ?_
          rotate_left
          · rintro w' ⟨s0, s1, s2⟩
            go_simp
            with_reducible rfl
          rotate_left
          · simp only [Act.put, List.setIfInBounds_toArray, List.set_cons_zero, List.set_cons_succ, i64_w, i32_w]
            rfl
          refine pure_ (i := 17) (N := some 78) (v := ?_) (a' := ?_) #[true, true, true, true, true, true, true, true, true, true, true, true, true, true, true, true, true, true, false, false] rfl rfl (any_of HT_.out (by kernel_rfl)) (fun _ _ _ h => h) (Or.inl ⟨by rfl, ?_⟩) ?_ ?_
          rotate_left
          · intro w'
            go_simp
            with_reducible rfl
          rotate_left
          · simp only [Act.put, List.setIfInBounds_toArray, List.set_cons_zero, List.set_cons_succ, i64_w, i32_w]
            rfl
          refine pure_ (i := 18) (N := some 79) (v := ?_) (a' := ?_) #[true, true, true, true, true, true, true, true, true, true, true, true, true, true, true, true, true, true, true, false] rfl rfl (any_of HT_.out (by kernel_rfl)) (fun _ _ _ h => h) (Or.inl ⟨by rfl, ?_⟩) ?_ ?_
          rotate_left
          · intro w'
            go_simp
            with_reducible rfl
          rotate_left
          · simp only [Act.put, List.setIfInBounds_toArray, List.set_cons_zero, List.set_cons_succ, i64_w, i32_w]
            rfl
          refine pure_ (i := 19) (N := some 80) (v := ?_) (a' := ?_) #[true, true, true, true, true, true, true, true, true, true, true, true, true, true, true, true, true, true, true, true] rfl rfl (any_of HT_.out (by kernel_rfl)) (fun _ _ _ h => h) (Or.inl ⟨by rfl, ?_⟩) ?_ ?_
          rotate_left
          · intro w'
            go_simp
            with_reducible rfl
          rotate_left
          · simp only [Act.put, List.setIfInBounds_toArray, List.set_cons_zero, List.set_cons_succ, i64_w, i32_w]
            rfl
          refine done_ (done_of HT_.out (by kernel_rfl)) ?_
          clear hHeld HT_ HW_
          clear cb1 cp0 ch0 cb
          go_wp2
          go_roundg k1
          case measure => have := HJ.out; omega
          case rel =>
            refine ⟨j + 1 + 1, by go_num, ?_, Lib.hid ⟨by have := HJ.out; omega, q + 1, rfl⟩⟩
            rw [HSU.out]
            simp
      · obtain rfl : m = j := by omega
        have hsm : ((ls.take m).map List.length).sum = L.length := by
          rw [List.take_of_length_le (by have := HM.out; omega)]
          exact HFI.out.sum
        rw [hsm]
        obtain ⟨w5, hw5⟩ : ∃ w5, w4.drewN q = w5 := ⟨_, rfl⟩
        have hb45 : Below w4.heap.size w4 w5 := by rw [← hw5]; exact ⟨rfl, rfl, rfl, Nat.le_refl _, fun _ _ => rfl⟩
        have HR5 := Lib.hid (RdI.below HR2.out hb45)
        have HL5 := Lib.hid (HR3.out.below hb45)
        have HV5 := Lib.hid (RdI.below HV4.out hb45)
        have HA5 := Lib.hid (RdA.below HA4.out hb45)
        have HB5 := Lib.hid (HB4.out.trans (hb45.mono HB4.out.size))
        rw [hw5]
        clear hsm hw5 hb45 HR2 HR3 HV4 HA4 HB4 hjk hj
        have HCC : Hid (∀ (x : Int) (c : Nat), compI ls x = (c : Int) → ∀ W, RdL W B1 ls → Calls Try.prog 12 #[.slice B1 m d1, .int .i64 x] W fun e w' => e = .returned (.int .i64 (c : Int)) ∧ w' = W) := by
          refine Lib.hid fun x c hx W hW => ?_
          have hmm := HM.out
          have := comp_calls W B1 d1 ls x hW (by omega) (fun r hr => Nat.le_trans (HRW.out r hr) (by omega))
          rw [hmm, hx] at this
          exact this
        have hm1 := fun wx => run_make_row' (P := Try.prog) 22 3 (.int .i64 0) 8 Try.underlying22 info_int rfl .i64 .i64 R.length (by omega) (by omega) wx
        go_wp2_with fail
        clear hm1
        go_loopg [14, 15, 16, 17, 18, 19, 94] R.length (fun kq v14 v15 v16 v17 v18 v19 v94 w' => ∃ i : Nat, v94 = .int .i64 (i : Int) ∧ Hid (i + kq = R.length ∧ ∃ hs ps, HPl w5 R.length w' hs ps ∧ ∀ x, i ≤ x → hs.getD x 0 = 0 ∧ ps.getD x 0 = 0))
        case atStart =>
          refine ⟨0, rfl, Lib.hid ⟨by omega, _, _, HPl.start w5 R.length, fun x _ => ?_⟩⟩
          simp [List.getD_eq_getElem?_getD, List.getElem?_replicate]
          split <;> rfl
        case round =>
          obtain ⟨i, rfl, hI⟩ := hrel
          obtain ⟨hik, hs, ps, hP, hzero⟩ := hI.out
          clear hI
          by_cases hi : i < R.length
          · obtain ⟨k1, rfl⟩ : ∃ k1, gk = k1 + 1 := ⟨gk - 1, by omega⟩
            obtain ⟨⟨u, v⟩, hxx⟩ : ∃ x, R[i] = x := ⟨_, rfl⟩
            have hx : R[i]? = some (u, v) := by rw [List.getElem?_eq_getElem hi, hxx]
            obtain ⟨ba, rfl, hcu, hcv⟩ := (HA5.out.below hP.b) i u v hx
            obtain ⟨cu, cv, hcul, hcvl, eu, ev, hord⟩ := HFI.out.arcs (u, v) (List.mem_of_getElem? hx)
            obtain ⟨b, bu, xu, hbe, cbu, chu⟩ := HL5.out.head hcul (HFI.out.ne cu hcul)
            subst hbe
            obtain ⟨_, bv, xv, hbe, cbv, chv⟩ := HL5.out.head hcvl (HFI.out.ne cv hcvl)
            cases hbe
            obtain ⟨hu, hhu⟩ : ∃ h, (ls[cu]).headD 0 = h := ⟨_, rfl⟩
            obtain ⟨hv, hhv⟩ : ∃ h, (ls[cv]).headD 0 = h := ⟨_, rfl⟩
            obtain ⟨nu, hnu⟩ : ∃ n, (ls[cu]).length = n := ⟨_, rfl⟩
            obtain ⟨nv, hnv⟩ : ∃ n, (ls[cv]).length = n := ⟨_, rfl⟩
            have nu0 : 0 < nu := by rw [← hnu]; exact List.length_pos_iff.2 (HFI.out.ne cu hcul)
            have nv0 : 0 < nv := by rw [← hnv]; exact List.length_pos_iff.2 (HFI.out.ne cv hcvl)
            rw [hnu] at cbu
            rw [hnv] at cbv
            rw [hhu] at chu hord
            rw [hhv] at chv hord
            rw [HTM.out] at hord
            rw [HM.out] at hcul hcvl
            have HCU := Lib.hid (HCC.out u cu eu)
            have HCV := Lib.hid (HCC.out v cv ev)
            have HOD := Lib.hid hord
            clear hord
            have CB1 := Lib.hid cbu
            have CH1 := Lib.hid chu
            have CB2 := Lib.hid cbv
            have CH2 := Lib.hid chv
            have HIK := Lib.hid hik
            have HI := Lib.hid hi
            have HZR := Lib.hid hzero
            have HPP := Lib.hid hP
            have j0 : (0 : Int) ≤ (i : Int) := by omega
            have j1 : (i : Int) < (R.length : Int) := by omega
            have j2 : (R.length : Int) ≤ 240 := by omega
            have u0 : (0 : Int) ≤ (cu : Int) := by omega
            have u1 : (cu : Int) < (m : Int) := by omega
            have v0 : (0 : Int) ≤ (cv : Int) := by omega
            have v1 : (cv : Int) < (m : Int) := by omega
            have f1 : decide ((cu : Int) < 0) = false := by rw [decide_eq_false_iff_not]; omega
            have f2 : decide ((cv : Int) < 0) = false := by rw [decide_eq_false_iff_not]; omega
            clear cbu chu cbv chv hik hi hzero hP hx hxx eu ev hcul hcvl hhu hhv hnu hnv
            go_upto_region 23 with (fail)
            refine gen_world (fun W => HPl w5 R.length W hs ps ∧ At W wr.heap.size [.int .i64 u, .int .i64 v] 34) ?_ ?_
            · exact ⟨HPP.out.below ((Below.refl _ _).alloc (Nat.le_refl _) _), At.made rfl rfl⟩
            clear HPP hcu hcv
            obtain ⟨ab, hab⟩ : ∃ ab, wr.heap.size = ab := ⟨_, rfl⟩
            rw [hab]
            clear hab
            rintro W1 ⟨hP1, hat⟩
            have cu0 : W1.drew.cell? ⟨ab, 0, none⟩ = some (.int .i64 u) := hat.cell 0 rfl
            have cv0 : W1.drew.cell? ⟨ab, 1, none⟩ = some (.int .i64 v) := hat.cell 1 rfl
            have hrl : RdL W1.drew (some ⟨b, 0, none⟩) ls := RdL.drewN (HL5.out.below hP1.b) 1
            have HRL := Lib.hid hrl
            have HP1 := Lib.hid hP1
            clear hat hP1 hrl
            refine start_ (n := 10) (S := fun w' => w'.cell? ⟨ab, 0, none⟩ = some (.int .i64 u) ∧ w'.cell? ⟨ab, 1, none⟩ = some (.int .i64 v)) (ds := []) #[false, false, false, false, false, false, false, false, false, false] (by kernel_rfl) rfl rfl ⟨cu0, cv0⟩ (fun hHeld => ?_)
            refine with_tabW tb3_23.tab23 tb3_23.bits23 (fun HT_ HW_ => ?_)
            refine pure_ (i := 0) (N := some 99) (v := ?_) (a' := ?_) #[true, false, false, false, false, false, false, false, false, false] rfl rfl (any_of HT_.out (by kernel_rfl)) (fun _ _ _ h => h) (Or.inl ⟨by rfl, ?_⟩) ?_ ?_
            rotate_left
            · intro w'
              go_simp
              with_reducible rfl
            rotate_left
            · simp only [Act.put, List.setIfInBounds_toArray, List.set_cons_zero, List.set_cons_succ, i64_w, i32_w]
              rfl
            refine pure_ (i := 1) (N := some 100) (v := ?_) (a' := ?_) #[true, true, false, false, false, false, false, false, false, false] rfl rfl (any_of HT_.out (by kernel_rfl)) (fun _ _ _ h => h) (Or.inl ⟨by rfl, ?_⟩) ?_ ?_
            rotate_left
            · intro w'
              go_simp
              with_reducible rfl
            rotate_left
            · simp only [Act.put, List.setIfInBounds_toArray, List.set_cons_zero, List.set_cons_succ, i64_w, i32_w]
              rfl
            refine pure_ (i := 4) (N := some 103) (v := ?_) (a' := ?_) #[true, true, false, false, true, false, false, false, false, false] rfl rfl (any_of HT_.out (by kernel_rfl)) (fun _ _ _ h => h) (Or.inl ⟨by rfl, ?_⟩) ?_ ?_
            rotate_left
            · intro w'
              go_simp
              with_reducible rfl
            rotate_left
            · simp only [Act.put, List.setIfInBounds_toArray, List.set_cons_zero, List.set_cons_succ, i64_w, i32_w]
              rfl
            refine pure_ (i := 5) (N := some 104) (v := ?_) (a' := ?_) #[true, true, false, false, true, true, false, false, false, false] rfl rfl (any_of HT_.out (by kernel_rfl)) (fun _ _ _ h => h) (Or.inl ⟨by rfl, ?_⟩) ?_ ?_
            rotate_left
            · intro w'
              go_simp
              with_reducible rfl
            rotate_left
            · simp only [Act.put, List.setIfInBounds_toArray, List.set_cons_zero, List.set_cons_succ, i64_w, i32_w]
              rfl
            refine take_ (i := 2) (N := some 101) (v := ?_) (a' := ?_) #[true, true, true, false, true, true, false, false, false, false] rfl rfl (take_ofW HT_.out HW_.out (by kernel_rfl)) (fun _ _ _ h => h) (Or.inl ⟨by rfl, ?_⟩) hHeld ?_ ?_
            rotate_left
            · rintro w' ⟨s0, s1⟩
              go_simp
              with_reducible rfl
            rotate_left
            · simp only [Act.put, List.setIfInBounds_toArray, List.set_cons_zero, List.set_cons_succ, i64_w, i32_w]
              rfl
            refine take_ (i := 6) (N := some 105) (v := ?_) (a' := ?_) #[true, true, true, false, true, true, true, false, false, false] rfl rfl (take_ofW HT_.out HW_.out (by kernel_rfl)) (fun _ _ _ h => h) (Or.inl ⟨by rfl, ?_⟩) hHeld ?_ ?_
            rotate_left
            · rintro w' ⟨s0, s1⟩
              go_simp
              with_reducible rfl
            rotate_left
            · simp only [Act.put, List.setIfInBounds_toArray, List.set_cons_zero, List.set_cons_succ, i64_w, i32_w]
              rfl
            refine one_ (i := 3) (N := some 102) #[true, true, true, true, true, true, true, false, false, false] rfl rfl (one_of HT_.out (by kernel_rfl)) (by decide) (fun K hK => ?_)
            refine goes_ Try.func12 (by kernel_rfl) rfl #[.slice (some ⟨b, 0, none⟩) m d1, .int .i64 u] (by rfl) rfl rfl (by simp only [List.map_toArray, List.map_cons, List.map_nil]; rfl) ?_
            with_reducible refine (HCU.out W1.drew HRL.out).mono ?_
            rintro e w3 ⟨rfl, rfl⟩
            refine ⟨_, rfl, ?_⟩
            refine hK.out _ _ ⟨cu0, cv0⟩ (fun hHeld => ?_)
            clear hK K
            refine norm_ (a' := ?_) ?_ ?_
            rotate_left
            · show Act.put _ (some 102) _ = _
              simp only [Act.put, List.setIfInBounds_toArray, List.set_cons_zero, List.set_cons_succ, i64_w, i32_w]
              rfl
            refine one_ (i := 7) (N := some 106) #[true, true, true, true, true, true, true, true, false, false] rfl rfl (one_of HT_.out (by kernel_rfl)) (by decide) (fun K hK => ?_)
            refine goes_ Try.func12 (by kernel_rfl) rfl #[.slice (some ⟨b, 0, none⟩) m d1, .int .i64 v] (by rfl) rfl rfl (by simp only [List.map_toArray, List.map_cons, List.map_nil]; rfl) ?_
            with_reducible refine (HCV.out W1.drew HRL.out).mono ?_
            rintro e w3 ⟨rfl, rfl⟩
            refine ⟨_, rfl, ?_⟩
            refine hK.out _ _ ⟨cu0, cv0⟩ (fun hHeld => ?_)
            clear hK K
            refine norm_ (a' := ?_) ?_ ?_
            rotate_left
            · show Act.put _ (some 106) _ = _
              simp only [Act.put, List.setIfInBounds_toArray, List.set_cons_zero, List.set_cons_succ, i64_w, i32_w]
              rfl
            refine pure_ (i := 8) (N := some 16) (v := ?_) (a' := ?_) #[true, true, true, true, true, true, true, true, true, false] rfl rfl (any_of HT_.out (by kernel_rfl)) (fun _ _ _ h => h) (Or.inl ⟨by rfl, ?_⟩) ?_ ?_
            rotate_left
            · intro w'
              go_simp
              with_reducible rfl
            rotate_left
            · simp only [Act.put, List.setIfInBounds_toArray, List.set_cons_zero, List.set_cons_succ, i64_w, i32_w]
              rfl
            refine pure_ (i := 9) (N := some 17) (v := ?_) (a' := ?_) #[true, true, true, true, true, true, true, true, true, true] rfl rfl (any_of HT_.out (by kernel_rfl)) (fun _ _ _ h => h) (Or.inl ⟨by rfl, ?_⟩) ?_ ?_
            rotate_left
            · intro w'
              go_simp
              with_reducible rfl
            rotate_left
            · simp only [Act.put, List.setIfInBounds_toArray, List.set_cons_zero, List.set_cons_succ, i64_w, i32_w]
              rfl
            refine done_ (done_of HT_.out (by kernel_rfl)) ?_
            clear hHeld HT_ HW_
            clear cu0 cv0 HRL HCU HCV
            refine gen_then (fun W => HPl w5 R.length W hs ps) ?_ ?_
            · exact HP1.out.drew
            clear HP1
            intro W2 hP2
            have HP2 := Lib.hid hP2
            clear hP2
            go_wp2
            go_loopg [18, 19, 115] m (fun kq v18 v19 v115 w' => ∃ k : Nat, v115 = .int .i64 (k : Int) ∧ Hid (k + kq = m ∧ ∃ hs ps, HPl w5 R.length w' hs ps ∧ Amid i ts hu hv k hs ps))
            case atStart =>
              refine ⟨0, rfl, Lib.hid ⟨by omega, hs, ps, HP2.out, ?_⟩⟩
              exact ⟨(HZR.out i (Nat.le_refl _)).1, (HZR.out i (Nat.le_refl _)).2, fun x hx => HZR.out x (by omega)⟩
            case round =>
              clear HP2 HZR hs ps f1 f2
              obtain ⟨k, rfl, hI⟩ := hrel
              obtain ⟨hkm, hs, ps, hP, hA⟩ := hI.out
              clear hI
              by_cases hk : k < m
              · obtain ⟨k2, rfl⟩ : ∃ k2, gk = k2 + 1 := ⟨gk - 1, by omega⟩
                obtain ⟨h, hh⟩ : ∃ h, ts[k]? = some h := ⟨_, List.getElem?_eq_getElem (by have := HTM.out; omega)⟩
                obtain ⟨b2, rfl, ch⟩ := (RdI.below HR5.out hP.b) k h hh
                have htk : ts.getD k 0 = h := by rw [List.getD_eq_getElem?_getD, hh]; rfl
                have hcb1 := keep_cell hP.b CB1.out
                have hch1 := keep_cell hP.b CH1.out
                have hcb2 := keep_cell hP.b CB2.out
                have hch2 := keep_cell hP.b CH2.out
                obtain ⟨x0, hst⟩ : ∃ x0, wr.cell? ⟨w5.heap.size, i, none⟩ = some x0 := ⟨_, hP.hh.cell i (List.getElem?_eq_getElem (by rw [nats_length, hP.lh]; exact HI.out))⟩
                have hfr := hP.hh.free i
                have k0 : (0 : Int) ≤ (k : Int) := by omega
                have k1' : (k : Int) < (m : Int) := by omega
                have k2' : (m : Int) ≤ 60 := by omega
                have HPP := Lib.hid hP
                have HAM := Lib.hid hA
                have HTK := Lib.hid htk
                have HKM := Lib.hid hkm
                clear hP hA htk hkm hh hk
                by_cases hh1 : h = hu
                · have q1 : (h == hu) = true := by rw [hh1]; simp
                  go_upto_region 31 with (fail)
                  refine gen_world (fun W => HPl w5 R.length W (hs.set i k) ps) ?_ ?_
                  · exact HPP.out.setH i k
                  clear ch hcb1 hcb2 hch1 hch2 hst hfr
                  intro W2 hP2
                  have hcb2 := keep_cell hP2.b CB2.out
                  have hch2 := keep_cell hP2.b CH2.out
                  obtain ⟨y0, hst⟩ : ∃ y0, W2.cell? ⟨w5.heap.size + 1, i, none⟩ = some y0 := ⟨_, hP2.hp.cell i (List.getElem?_eq_getElem (by rw [nats_length, hP2.lp]; exact HI.out))⟩
                  have hfr := hP2.hp.free i
                  have HP2 := Lib.hid hP2
                  clear hP2
                  by_cases hh2 : h = hv
                  · have q2 : (h == hv) = true := by rw [hh2]; simp
                    have hstep := HAM.out.step (by rw [HPP.out.lh]; exact HI.out) (by rw [HPP.out.lp]; exact HI.out) HTK.out
                    rw [if_pos hh1, if_pos hh2] at hstep
                    have HS := Lib.hid hstep
                    clear hstep hh1 hh2
                    go_wp2
                    go_roundg k2
                    case measure => have := HKM.out; omega
                    case rel => exact ⟨k + 1, by go_num, Lib.hid ⟨by have := HKM.out; omega, _, _, HP2.out.setP i k, HS.out⟩⟩
                  · have q2 : (h == hv) = false := beq_eq_false_iff_ne.2 hh2
                    have hstep := HAM.out.step (by rw [HPP.out.lh]; exact HI.out) (by rw [HPP.out.lp]; exact HI.out) HTK.out
                    rw [if_pos hh1, if_neg hh2] at hstep
                    have HS := Lib.hid hstep
                    clear hstep hh1 hh2
                    go_wp2
                    go_roundg k2
                    case measure => have := HKM.out; omega
                    case rel => exact ⟨k + 1, by go_num, Lib.hid ⟨by have := HKM.out; omega, _, _, HP2.out, HS.out⟩⟩
                · have q1 : (h == hu) = false := beq_eq_false_iff_ne.2 hh1
                  go_upto_region 31 with (fail)
                  refine gen_world (fun W => HPl w5 R.length W (hs) ps) ?_ ?_
                  · exact HPP.out
                  clear ch hcb1 hcb2 hch1 hch2 hst hfr
                  intro W2 hP2
                  have hcb2 := keep_cell hP2.b CB2.out
                  have hch2 := keep_cell hP2.b CH2.out
                  obtain ⟨y0, hst⟩ : ∃ y0, W2.cell? ⟨w5.heap.size + 1, i, none⟩ = some y0 := ⟨_, hP2.hp.cell i (List.getElem?_eq_getElem (by rw [nats_length, hP2.lp]; exact HI.out))⟩
                  have hfr := hP2.hp.free i
                  have HP2 := Lib.hid hP2
                  clear hP2
                  by_cases hh2 : h = hv
                  · have q2 : (h == hv) = true := by rw [hh2]; simp
                    have hstep := HAM.out.step (by rw [HPP.out.lh]; exact HI.out) (by rw [HPP.out.lp]; exact HI.out) HTK.out
                    rw [if_neg hh1, if_pos hh2] at hstep
                    have HS := Lib.hid hstep
                    clear hstep hh1 hh2
                    go_wp2
                    go_roundg k2
                    case measure => have := HKM.out; omega
                    case rel => exact ⟨k + 1, by go_num, Lib.hid ⟨by have := HKM.out; omega, _, _, HP2.out.setP i k, HS.out⟩⟩
                  · have q2 : (h == hv) = false := beq_eq_false_iff_ne.2 hh2
                    have hstep := HAM.out.step (by rw [HPP.out.lh]; exact HI.out) (by rw [HPP.out.lp]; exact HI.out) HTK.out
                    rw [if_neg hh1, if_neg hh2] at hstep
                    have HS := Lib.hid hstep
                    clear hstep hh1 hh2
                    go_wp2
                    go_roundg k2
                    case measure => have := HKM.out; omega
                    case rel => exact ⟨k + 1, by go_num, Lib.hid ⟨by have := HKM.out; omega, _, _, HP2.out, HS.out⟩⟩
              · obtain ⟨ku, hku⟩ : ∃ ku, lastAt ts hu m = ku := ⟨_, rfl⟩
                obtain ⟨kv, hkv⟩ : ∃ kv, lastAt ts hv m = kv := ⟨_, rfl⟩
                have hkm2 : k = m := by omega
                rw [hkm2] at hA
                have hka := hA.1
                have hkb := hA.2.1
                rw [hku] at hka
                rw [hkv] at hkb
                have hil : i < hs.length := by rw [hP.lh]; exact HI.out
                have hil2 : i < ps.length := by rw [hP.lp]; exact HI.out
                have ch := hP.hh.cell i (nats_at hs (show hs[i]? = some ku by rw [List.getD_eq_getElem?_getD, List.getElem?_eq_getElem hil] at hka; rw [List.getElem?_eq_getElem hil]; exact congrArg some hka))
                have cp := hP.hp.cell i (nats_at ps (show ps[i]? = some kv by rw [List.getD_eq_getElem?_getD, List.getElem?_eq_getElem hil2] at hkb; rw [List.getElem?_eq_getElem hil2]; exact congrArg some hkb))
                have hord := HOD.out
                rw [hku, hkv] at hord
                have HPP := Lib.hid hP
                have HAM := Lib.hid hA.2.2
                have k0 : (m : Int) ≤ (k : Int) := by omega
                clear hA hka hkb hP hil hil2 hku hkv hkm hk HOD CB1 CB2 CH1 CH2
                by_cases hcc : cu = cv
                · have f1 : ((cu : Int) != (cv : Int)) = false := by rw [hcc, bne, beq_self_eq_true]; rfl
                  clear hord hcc
                  go_upto_region 34 with (fail)
                  refine start_ (n := 14) (S := fun w' => True) (ds := []) #[false, false, false, false, false, false, false, false, false, false, false, false, false, false] (by kernel_rfl) rfl rfl trivial (fun hHeld => ?_)
                  refine with_tabW tb3_34.tab34 tb3_34.bits34 (fun HT_ HW_ => ?_)
                  refine pure_ (i := 0) (N := some 145) (v := ?_) (a' := ?_) #[true, false, false, false, false, false, false, false, false, false, false, false, false, false] rfl rfl (any_of HT_.out (by kernel_rfl)) (fun _ _ _ h => h) (Or.inl ⟨by rfl, ?_⟩) ?_ ?_
                  rotate_left
                  · intro w'
                    go_simp
                    with_reducible rfl
                  rotate_left
                  · simp only [Act.put, List.setIfInBounds_toArray, List.set_cons_zero, List.set_cons_succ, i64_w, i32_w]
                    rfl
                  refine pure_ (i := 1) (N := some 146) (v := ?_) (a' := ?_) #[true, true, false, false, false, false, false, false, false, false, false, false, false, false] rfl rfl (any_of HT_.out (by kernel_rfl)) (fun _ _ _ h => h) (Or.inl ⟨by rfl, ?_⟩) ?_ ?_
                  rotate_left
                  · intro w'
                    go_simp
                    with_reducible rfl
                  rotate_left
                  · simp only [Act.put, List.setIfInBounds_toArray, List.set_cons_zero, List.set_cons_succ, i64_w, i32_w]
                    rfl
                  refine pure_ (i := 2) (N := some 147) (v := ?_) (a' := ?_) #[true, true, true, false, false, false, false, false, false, false, false, false, false, false] rfl rfl (any_of HT_.out (by kernel_rfl)) (fun _ _ _ h => h) (Or.inl ⟨by rfl, ?_⟩) ?_ ?_
                  rotate_left
                  · intro w'
                    go_simp
                    with_reducible rfl
                  rotate_left
                  · simp only [Act.put, List.setIfInBounds_toArray, List.set_cons_zero, List.set_cons_succ, i64_w, i32_w]
                    rfl
                  refine pure_ (i := 3) (N := some 148) (v := ?_) (a' := ?_) #[true, true, true, true, false, false, false, false, false, false, false, false, false, false] rfl rfl (any_of HT_.out (by kernel_rfl)) (fun _ _ _ h => h) (Or.inl ⟨by rfl, ?_⟩) ?_ ?_
                  rotate_left
                  · intro w'
                    go_simp
                    with_reducible rfl
                  rotate_left
                  · simp only [Act.put, List.setIfInBounds_toArray, List.set_cons_zero, List.set_cons_succ, i64_w, i32_w]
                    rfl
                  refine pure_ (i := 4) (N := some 149) (v := undef) (a' := ?_) #[true, true, true, true, true, false, false, false, false, false, false, false, false, false] rfl rfl (any_of HT_.out (by kernel_rfl)) (fun _ _ _ h => h) (Or.inr ⟨by rfl, rfl⟩) ?_ ?_
                  rotate_left
                  · simp only [Act.put, List.setIfInBounds_toArray, List.set_cons_zero, List.set_cons_succ, i64_w, i32_w]
                    rfl
                  refine pure_ (i := 5) (N := some 150) (v := undef) (a' := ?_) #[true, true, true, true, true, true, false, false, false, false, false, false, false, false] rfl rfl (any_of HT_.out (by kernel_rfl)) (fun _ _ _ h => h) (Or.inr ⟨by rfl, rfl⟩) ?_ ?_
                  rotate_left
                  · simp only [Act.put, List.setIfInBounds_toArray, List.set_cons_zero, List.set_cons_succ, i64_w, i32_w]
                    rfl
                  refine pure_ (i := 6) (N := some 151) (v := undef) (a' := ?_) #[true, true, true, true, true, true, true, false, false, false, false, false, false, false] rfl rfl (any_of HT_.out (by kernel_rfl)) (fun _ _ _ h => h) (Or.inr ⟨by rfl, rfl⟩) ?_ ?_
                  rotate_left
                  · simp only [Act.put, List.setIfInBounds_toArray, List.set_cons_zero, List.set_cons_succ, i64_w, i32_w]
                    rfl
                  refine pure_ (i := 7) (N := some 152) (v := undef) (a' := ?_) #[true, true, true, true, true, true, true, true, false, false, false, false, false, false] rfl rfl (any_of HT_.out (by kernel_rfl)) (fun _ _ _ h => h) (Or.inr ⟨by rfl, rfl⟩) ?_ ?_
                  rotate_left
                  · simp only [Act.put, List.setIfInBounds_toArray, List.set_cons_zero, List.set_cons_succ, i64_w, i32_w]
                    rfl
                  refine pure_ (i := 8) (N := some 153) (v := undef) (a' := ?_) #[true, true, true, true, true, true, true, true, true, false, false, false, false, false] rfl rfl (any_of HT_.out (by kernel_rfl)) (fun _ _ _ h => h) (Or.inr ⟨by rfl, rfl⟩) ?_ ?_
                  rotate_left
                  · simp only [Act.put, List.setIfInBounds_toArray, List.set_cons_zero, List.set_cons_succ, i64_w, i32_w]
                    rfl
                  refine pure_ (i := 9) (N := some 154) (v := undef) (a' := ?_) #[true, true, true, true, true, true, true, true, true, true, false, false, false, false] rfl rfl (any_of HT_.out (by kernel_rfl)) (fun _ _ _ h => h) (Or.inr ⟨by rfl, rfl⟩) ?_ ?_
                  rotate_left
                  · simp only [Act.put, List.setIfInBounds_toArray, List.set_cons_zero, List.set_cons_succ, i64_w, i32_w]
                    rfl
                  refine pure_ (i := 10) (N := some 155) (v := undef) (a' := ?_) #[true, true, true, true, true, true, true, true, true, true, true, false, false, false] rfl rfl (any_of HT_.out (by kernel_rfl)) (fun _ _ _ h => h) (Or.inr ⟨by rfl, rfl⟩) ?_ ?_
                  rotate_left
                  · simp only [Act.put, List.setIfInBounds_toArray, List.set_cons_zero, List.set_cons_succ, i64_w, i32_w]
                    rfl
                  refine pure_ (i := 11) (N := some 156) (v := undef) (a' := ?_) #[true, true, true, true, true, true, true, true, true, true, true, true, false, false] rfl rfl (any_of HT_.out (by kernel_rfl)) (fun _ _ _ h => h) (Or.inr ⟨by rfl, rfl⟩) ?_ ?_
                  rotate_left
                  · simp only [Act.put, List.setIfInBounds_toArray, List.set_cons_zero, List.set_cons_succ, i64_w, i32_w]
                    rfl
                  refine pure_ (i := 12) (N := some 157) (v := undef) (a' := ?_) #[true, true, true, true, true, true, true, true, true, true, true, true, true, false] rfl rfl (any_of HT_.out (by kernel_rfl)) (fun _ _ _ h => h) (Or.inr ⟨by rfl, rfl⟩) ?_ ?_
                  rotate_left
                  · simp only [Act.put, List.setIfInBounds_toArray, List.set_cons_zero, List.set_cons_succ, i64_w, i32_w]
                    rfl
                  refine pure_ (i := 13) (N := some 158) (v := ?_) (a' := ?_) #[true, true, true, true, true, true, true, true, true, true, true, true, true, true] rfl rfl (any_of HT_.out (by kernel_rfl)) (fun _ _ _ h => h) (Or.inl ⟨by rfl, ?_⟩) ?_ ?_
                  rotate_left
                  · intro w'
                    go_simp
                    with_reducible rfl
                  rotate_left
                  · simp only [Act.put, List.setIfInBounds_toArray, List.set_cons_zero, List.set_cons_succ, i64_w, i32_w]
                    rfl
                  refine done_ (done_of HT_.out (by kernel_rfl)) ?_
                  clear hHeld HT_ HW_
                  go_wp2
                  go_roundg k1
                  case measure => have := HIK.out; omega
                  case rel => exact ⟨i + 1, by go_num, Lib.hid ⟨by have := HIK.out; omega, hs, ps, HPP.out.drew, fun x hx => HAM.out x (by omega)⟩⟩
                · have f0 : ((cu : Int) == (cv : Int)) = false := beq_eq_false_iff_ne.2 (by omega)
                  have f1 : ((cu : Int) != (cv : Int)) = true := by rw [bne, f0]; rfl
                  have hlt := hord hcc
                  have f2 : decide ((kv : Int) ≤ (ku : Int)) = false := by rw [decide_eq_false_iff_not]; omega
                  have f3 : decide (kv ≤ ku) = false := by rw [decide_eq_false_iff_not]; omega
                  clear hord hcc hlt
                  go_upto_region 34 with (fail)
                  refine start_ (n := 14) (S := fun w' => w'.cell? ⟨w5.heap.size, i, none⟩ = some (.int .i64 (ku : Int)) ∧ w'.cell? ⟨w5.heap.size + 1, i, none⟩ = some (.int .i64 (kv : Int))) (ds := []) #[false, false, false, false, false, false, false, false, false, false, false, false, false, false] (by kernel_rfl) rfl rfl ⟨ch, cp⟩ (fun hHeld => ?_)
                  refine with_tabW tb3_34.tab34 tb3_34.bits34 (fun HT_ HW_ => ?_)
                  refine pure_ (i := 0) (N := some 145) (v := ?_) (a' := ?_) #[true, false, false, false, false, false, false, false, false, false, false, false, false, false] rfl rfl (any_of HT_.out (by kernel_rfl)) (fun _ _ _ h => h) (Or.inl ⟨by rfl, ?_⟩) ?_ ?_
                  rotate_left
                  · intro w'
                    go_simp
                    with_reducible rfl
                  rotate_left
                  · simp only [Act.put, List.setIfInBounds_toArray, List.set_cons_zero, List.set_cons_succ, i64_w, i32_w]
                    rfl
                  refine pure_ (i := 1) (N := some 146) (v := ?_) (a' := ?_) #[true, true, false, false, false, false, false, false, false, false, false, false, false, false] rfl rfl (any_of HT_.out (by kernel_rfl)) (fun _ _ _ h => h) (Or.inl ⟨by rfl, ?_⟩) ?_ ?_
                  rotate_left
                  · intro w'
                    go_simp
                    with_reducible rfl
                  rotate_left
                  · simp only [Act.put, List.setIfInBounds_toArray, List.set_cons_zero, List.set_cons_succ, i64_w, i32_w]
                    rfl
                  refine pure_ (i := 2) (N := some 147) (v := ?_) (a' := ?_) #[true, true, true, false, false, false, false, false, false, false, false, false, false, false] rfl rfl (any_of HT_.out (by kernel_rfl)) (fun _ _ _ h => h) (Or.inl ⟨by rfl, ?_⟩) ?_ ?_
                  rotate_left
                  · intro w'
                    go_simp
                    with_reducible rfl
                  rotate_left
                  · simp only [Act.put, List.setIfInBounds_toArray, List.set_cons_zero, List.set_cons_succ, i64_w, i32_w]
                    rfl
                  refine pure_ (i := 3) (N := some 148) (v := ?_) (a' := ?_) #[true, true, true, true, false, false, false, false, false, false, false, false, false, false] rfl rfl (any_of HT_.out (by kernel_rfl)) (fun _ _ _ h => h) (Or.inl ⟨by rfl, ?_⟩) ?_ ?_
                  rotate_left
                  · intro w'
                    go_simp
                    with_reducible rfl
                  rotate_left
                  · simp only [Act.put, List.setIfInBounds_toArray, List.set_cons_zero, List.set_cons_succ, i64_w, i32_w]
                    rfl
                  refine pure_ (i := 4) (N := some 149) (v := ?_) (a' := ?_) #[true, true, true, true, true, false, false, false, false, false, false, false, false, false] rfl rfl (any_of HT_.out (by kernel_rfl)) (fun _ _ _ h => h) (Or.inl ⟨by rfl, ?_⟩) ?_ ?_
                  rotate_left
                  · intro w'
                    go_simp
                    with_reducible rfl
                  rotate_left
                  · simp only [Act.put, List.setIfInBounds_toArray, List.set_cons_zero, List.set_cons_succ, i64_w, i32_w]
                    rfl
                  refine pure_ (i := 5) (N := some 150) (v := ?_) (a' := ?_) #[true, true, true, true, true, true, false, false, false, false, false, false, false, false] rfl rfl (any_of HT_.out (by kernel_rfl)) (fun _ _ _ h => h) (Or.inl ⟨by rfl, ?_⟩) ?_ ?_
                  rotate_left
                  · intro w'
                    go_simp
                    with_reducible rfl
                  rotate_left
                  · simp only [Act.put, List.setIfInBounds_toArray, List.set_cons_zero, List.set_cons_succ, i64_w, i32_w]
                    rfl
                  refine pure_ (i := 6) (N := some 151) (v := ?_) (a' := ?_) #[true, true, true, true, true, true, true, false, false, false, false, false, false, false] rfl rfl (any_of HT_.out (by kernel_rfl)) (fun _ _ _ h => h) (Or.inl ⟨by rfl, ?_⟩) ?_ ?_
                  rotate_left
                  · intro w'
                    go_simp
                    with_reducible rfl
                  rotate_left
                  · simp only [Act.put, List.setIfInBounds_toArray, List.set_cons_zero, List.set_cons_succ, i64_w, i32_w]
                    rfl
                  refine pure_ (i := 8) (N := some 153) (v := ?_) (a' := ?_) #[true, true, true, true, true, true, true, false, true, false, false, false, false, false] rfl rfl (any_of HT_.out (by kernel_rfl)) (fun _ _ _ h => h) (Or.inl ⟨by rfl, ?_⟩) ?_ ?_
                  rotate_left
                  · intro w'
                    go_simp
                    with_reducible rfl
                  rotate_left
                  · simp only [Act.put, List.setIfInBounds_toArray, List.set_cons_zero, List.set_cons_succ, i64_w, i32_w]
                    rfl
                  refine pure_ (i := 9) (N := some 154) (v := ?_) (a' := ?_) #[true, true, true, true, true, true, true, false, true, true, false, false, false, false] rfl rfl (any_of HT_.out (by kernel_rfl)) (fun _ _ _ h => h) (Or.inl ⟨by rfl, ?_⟩) ?_ ?_
                  rotate_left
                  · intro w'
                    go_simp
                    with_reducible rfl
                  rotate_left
                  · simp only [Act.put, List.setIfInBounds_toArray, List.set_cons_zero, List.set_cons_succ, i64_w, i32_w]
                    rfl
                  refine pure_ (i := 10) (N := some 155) (v := ?_) (a' := ?_) #[true, true, true, true, true, true, true, false, true, true, true, false, false, false] rfl rfl (any_of HT_.out (by kernel_rfl)) (fun _ _ _ h => h) (Or.inl ⟨by rfl, ?_⟩) ?_ ?_
                  rotate_left
                  · intro w'
                    go_simp
                    with_reducible rfl
                  rotate_left
                  · simp only [Act.put, List.setIfInBounds_toArray, List.set_cons_zero, List.set_cons_succ, i64_w, i32_w]
                    rfl
                  refine take_ (i := 7) (N := some 152) (v := ?_) (a' := ?_) #[true, true, true, true, true, true, true, true, true, true, true, false, false, false] rfl rfl (take_ofW HT_.out HW_.out (by kernel_rfl)) (fun _ _ _ h => h) (Or.inl ⟨by rfl, ?_⟩) hHeld ?_ ?_
                  rotate_left
                  · rintro w' ⟨s0, s1⟩
                    go_simp
                    with_reducible rfl
                  rotate_left
                  · simp only [Act.put, List.setIfInBounds_toArray, List.set_cons_zero, List.set_cons_succ, i64_w, i32_w]
                    rfl
                  refine take_ (i := 11) (N := some 156) (v := ?_) (a' := ?_) #[true, true, true, true, true, true, true, true, true, true, true, true, false, false] rfl rfl (take_ofW HT_.out HW_.out (by kernel_rfl)) (fun _ _ _ h => h) (Or.inl ⟨by rfl, ?_⟩) hHeld ?_ ?_
                  rotate_left
                  · rintro w' ⟨s0, s1⟩
                    go_simp
                    with_reducible rfl
                  rotate_left
                  · simp only [Act.put, List.setIfInBounds_toArray, List.set_cons_zero, List.set_cons_succ, i64_w, i32_w]
                    rfl
                  refine pure_ (i := 12) (N := some 157) (v := ?_) (a' := ?_) #[true, true, true, true, true, true, true, true, true, true, true, true, true, false] rfl rfl (any_of HT_.out (by kernel_rfl)) (fun _ _ _ h => h) (Or.inl ⟨by rfl, ?_⟩) ?_ ?_
                  rotate_left
                  · intro w'
                    go_simp
                    with_reducible rfl
                  rotate_left
                  · simp only [Act.put, List.setIfInBounds_toArray, List.set_cons_zero, List.set_cons_succ, i64_w, i32_w]
                    rfl
                  refine pure_ (i := 13) (N := some 158) (v := ?_) (a' := ?_) #[true, true, true, true, true, true, true, true, true, true, true, true, true, true] rfl rfl (any_of HT_.out (by kernel_rfl)) (fun _ _ _ h => h) (Or.inl ⟨by rfl, ?_⟩) ?_ ?_
                  rotate_left
                  · intro w'
                    go_simp
                    with_reducible rfl
                  rotate_left
                  · simp only [Act.put, List.setIfInBounds_toArray, List.set_cons_zero, List.set_cons_succ, i64_w, i32_w]
                    rfl
                  refine done_ (done_of HT_.out (by kernel_rfl)) ?_
                  clear hHeld HT_ HW_
                  clear ch cp
                  go_wp2
                  go_roundg k1
                  case measure => have := HIK.out; omega
                  case rel => exact ⟨i + 1, by go_num, Lib.hid ⟨by have := HIK.out; omega, hs, ps, HPP.out.drew, fun x hx => HAM.out x (by omega)⟩⟩
          · obtain rfl : i = R.length := by omega
            have HBW := Lib.hid hP.b
            clear hP hzero hik hi hs ps
            obtain ⟨W0, hW0⟩ : ∃ W0, wr = W0 := ⟨_, rfl⟩
            rw [hW0] at HBW ⊢
            clear hW0
            go_wp2_with fail
            go_loopg [21, 162] L.length (fun kq v21 v162 w' => ∃ x : Nat, v162 = .int .i64 (x : Int) ∧ Hid (x + kq = L.length ∧ w' = W0))
            case atStart => exact ⟨0, rfl, Lib.hid ⟨by omega, rfl⟩⟩
            case round =>
              obtain ⟨x, rfl, hI⟩ := hrel
              obtain ⟨hxk, hw⟩ := hI.out
              subst hw
              clear hI
              by_cases hx : x < L.length
              · obtain ⟨k1, rfl⟩ : ∃ k1, gk = k1 + 1 := ⟨gk - 1, by omega⟩
                obtain ⟨v, hvv⟩ : ∃ v, L[x]? = some v := ⟨_, List.getElem?_eq_getElem hx⟩
                obtain ⟨bv, rfl, cv0⟩ := (RdI.below HV5.out HBW.out) x v hvv
                obtain ⟨c, hcm, hce⟩ := HFI.out.vs v (List.mem_of_getElem? hvv)
                have HC := Lib.hid (HCC.out v c hce wr (HL5.out.below HBW.out))
                have HXK := Lib.hid hxk
                have k0 : (0 : Int) ≤ (x : Int) := by omega
                have k1' : (x : Int) < (L.length : Int) := by omega
                have k2' : (L.length : Int) ≤ 60 := by omega
                have f1 : decide ((c : Int) < 0) = false := by rw [decide_eq_false_iff_not]; omega
                clear hce hcm hvv hxk hx
                go_wp2_with fail
                refine HC.out.mono ?_
                rintro e w6 ⟨rfl, rfl⟩
                go_wp2
                go_roundg k1
                case measure => have := HXK.out; omega
                case rel => exact ⟨x + 1, by go_num, Lib.hid ⟨by have := HXK.out; omega, rfl⟩⟩
              · have k0 : (L.length : Int) ≤ (x : Int) := by omega
                clear hxk hx
                go_wp2
                go_ret
                have hb := HB5.out.trans (HBW.out.mono HB5.out.size)
                exact ⟨rfl, hb⟩
  · have hls : ls = [] := Z1.out hc0
    have hts : ts = [] := Z2.out hc0
    subst hls hts
    have e0 : ((code : Int) == 0) = false := beq_eq_false_iff_ne.2 (by omega)
    have e1 : ((code : Int) != 0) = true := by rw [bne, e0]; rfl
    have e2 : ((code : Int) != (code : Int)) = false := by rw [bne, beq_self_eq_true]; rfl
    clear HF P1 P2 Z1 Z2
    go_wp2
    go_ret
    exact ⟨rfl, HB4.out⟩

end Go.Proofs.Ythlmffjafeodlaa.Lw
