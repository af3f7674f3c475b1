/- SccOwn, walked. -/
import Derived.Test.YthlmffjafeodlaaLw7
import Derived.Test.YthlmffjafeodlaaRz
namespace Go.Proofs.Ythlmffjafeodlaa.Lw
open Go Go.RowKit Go.Proofs.Ythlmffjafeodlaa.Mem Go.Proofs.Ythlmffjafeodlaa.Sl Go.Proofs.Ythlmffjafeodlaa.Scc Go.Proofs.Ythlmffjafeodlaa.Tj Go.Proofs.YthlmffjafeodlaaW.PrintWords Go.Proofs.YthlmffjafeodlaaW.PrintLast Go.Proofs.YthlmffjafeodlaaW.PrintMore
attribute [local go_sem ↓] Go.wp_at_zero Go.wp_at_succ
set_option linter.unusedSimpArgs false
set_option linter.unusedVariables false

theorem RdV.of_own {w : World} {base size n c : Nat} {e : TypeId} {A : Option Addr} {xs : List Value} (h : w.ownsRow base e size (.slice A n c) n xs) (h1 : ∀ u ∈ xs, u.oneCell' = true) : RdV w (.slice A n c) n size xs := by
  refine ⟨h.1, h1, ?_⟩
  rcases h.2 with ⟨he, hn⟩ | ⟨g, cap, cur, he, _⟩
  · exact .inl ⟨he, hn⟩
  · right
    refine ⟨_, _, he, fun j u hu => ?_⟩
    cases he
    exact h.cells (g := g) rfl j u hu
theorem own_cap {w : World} {base size n c : Nat} {e : TypeId} {A : Option Addr} {xs : List Value} (h : w.ownsRow base e size (.slice A n c) n xs) : n ≤ c := by
  rcases h.2 with ⟨he, hn⟩ | ⟨g, cap, cur, he, _, _, h2, _⟩
  · cases he; omega
  · cases he; exact h2
theorem RdI.take {w : World} {A : Option Addr} {l r : List Int} (h : RdI w A (l ++ r)) : RdI w A l := fun j x hx => h j x (by rw [List.getElem?_append_left (List.getElem?_eq_some_iff.1 hx).1]; exact hx)
theorem RdA.take {w : World} {A : Option Addr} {l r : List (Int × Int)} (h : RdA w A (l ++ r)) : RdA w A l := fun j u v hx => h j u v (by rw [List.getElem?_append_left (List.getElem?_eq_some_iff.1 hx).1]; exact hx)

theorem keep_cell {w w' : World} {a : Addr} {v : Value} (hb : Below w.heap.size w w') (hc : w.cell? a = some v) : w'.cell? a = some v := (hb.cell (World.block_lt_of_cell? w _ hc)).trans hc
theorem own_next {w : World} {base : Nat} {e : TypeId} {v : Value} {r : List Int} {x : Int} (h : w.ownsRow base e 1 v (r.length + 1) (ints r ++ [.int .i64 x])) : w.ownsRow base e 1 v (r ++ [x]).length (ints (r ++ [x])) := by
  rw [List.length_append, List.length_singleton, ← ints_snoc]
  exact h
theorem own_plain (L : List Int) (R : List (Int × Int)) (hL : L.length ≤ 60) (hR : R.length ≤ 240) : ∃ code ls ts, ofS L R (sorted L) 1000 = some (code, ls) ∧ orderS L R (sorted L) 1000 = some (code, ts) ∧
    (code ≠ 0 → ls = []) ∧ (code ≠ 0 → ts = []) ∧ ls.length ≤ 60 ∧ (∀ r ∈ ls, r.length ≤ 60) ∧ ts.length ≤ 60 ∧ ∃ b, acyS L R (sorted L) 1000 = some (code, b) := by
  have hl := sorted_length L
  have hs := sorted_rising L
  obtain ⟨ls, h1, h2, h3⟩ := ofS_ends (l := L) (arcs := R) (k := 1000) hl hs (by omega) (by omega)
  obtain ⟨ts, h4, h5, h6⟩ := orderS_ends (l := L) (arcs := R) (k := 1000) hl hs (by omega) (by omega) (by omega)
  obtain ⟨b, h7, _⟩ := acyS_ends (l := L) (arcs := R) (k := 1000) hl hs (by omega) (by omega)
  have hsm := of_small h2 h3
  exact ⟨_, ls, ts, h1, h4, h2, h5, Nat.le_trans hsm.1 hL, fun r hr => Nat.le_trans (hsm.2 r hr) hL, Nat.le_trans (order_small h5 h6) hL, b, h7⟩

def tb7_5.T5 : Bool × List (List Nat × List Nat) := (true, [([], []), ([], []), ([1], [1]), ([0, 2], [0, 2]), ([], []), ([], []), ([5], [5]), ([4, 6], [4, 6]), ([3, 7], [3, 7]), ([8], [8]), ([9], [9]), ([9], [9]), ([10, 8, 0, 1, 2, 3, 4, 5, 6, 7, 8, 9, 10], [10]), ([11, 12, 0, 1, 2, 3, 4, 5, 6, 7, 8, 9, 10, 11, 12], [11])])
def tb7_5.B5 : List Nat := [0, 0, 2, 7, 0, 0, 32, 112, 255, 511, 1023, 1023, 2047, 8191]
theorem tb7_5.tab5 : rtab .any (opsOf Try.f7 5) = tb7_5.T5 := by kernel_rfl
theorem tb7_5.bits5 : waitsOk tb7_5.T5.2 tb7_5.B5 = true := by kernel_rfl
def tb7_6.T6 : Bool × List (List Nat × List Nat) := (true, [([], []), ([], []), ([1], [1]), ([0, 2], [0, 2]), ([], []), ([], []), ([5], [5]), ([4, 6], [4, 6]), ([3, 7], [3, 7]), ([8], [8]), ([9], [9]), ([9], [9]), ([10, 8, 0, 1, 2, 3, 4, 5, 6, 7, 8, 9, 10], [10]), ([11, 12, 0, 1, 2, 3, 4, 5, 6, 7, 8, 9, 10, 11, 12], [11])])
def tb7_6.B6 : List Nat := [0, 0, 2, 7, 0, 0, 32, 112, 255, 511, 1023, 1023, 2047, 8191]
theorem tb7_6.tab6 : rtab .any (opsOf Try.f7 6) = tb7_6.T6 := by kernel_rfl
theorem tb7_6.bits6 : waitsOk tb7_6.T6.2 tb7_6.B6 = true := by kernel_rfl
def tb7_7.T7 : Bool × List (List Nat × List Nat) := (true, [([], []), ([], []), ([1], [1]), ([0, 2], [0, 2]), ([], []), ([], []), ([5], [5]), ([4, 6], [4, 6]), ([3, 7], [3, 7])])
def tb7_7.B7 : List Nat := [0, 0, 2, 7, 0, 0, 32, 112, 255]
theorem tb7_7.tab7 : rtab .any (opsOf Try.f7 7) = tb7_7.T7 := by kernel_rfl
theorem tb7_7.bits7 : waitsOk tb7_7.T7.2 tb7_7.B7 = true := by kernel_rfl
def tb7_13.T13 : Bool × List (List Nat × List Nat) := (true, [([], []), ([], []), ([0, 1], [0, 1]), ([2], [2]), ([], []), ([], []), ([4, 5], [4, 5]), ([6], [6]), ([3, 7], [3, 7])])
def tb7_13.B13 : List Nat := [0, 0, 3, 7, 0, 0, 48, 112, 255]
theorem tb7_13.tab13 : rtab .any (opsOf Try.f7 13) = tb7_13.T13 := by kernel_rfl
theorem tb7_13.bits13 : waitsOk tb7_13.T13.2 tb7_13.B13 = true := by kernel_rfl
set_option maxHeartbeats 8000000 in
set_option maxRecDepth 100000 in
theorem own_calls (w : World) (a1 a2 : Value) (l : List Int) (arcs : List (Int × Int)) (h1 : ArgV w a1 l.length 1 (ints l)) (h2 : ArgV w a2 arcs.length 2 (arcs2 arcs)) :
    Calls Try.prog 7 #[a1, a2] w fun e w' => e = .returned (.bool true) ∧ Below w.heap.size w w' := by
  obtain ⟨i1, hi1, hz1, hs1, hy1⟩ := info_parts info_int
  obtain ⟨i2, hi2, hz2, hs2, hy2⟩ := info_parts info_arc
  obtain ⟨i3, hi3, hz3, hs3, hy3⟩ := info_parts info_ints
  have HH := Lib.hid (And.intro h1 h2)
  clear h1 h2
  go_enter Try.func7, Try.ntmps7
  go_wp2_with fail
  refine (awake_calls _).mono ?_
  rintro e w1 ⟨rfl, hb1⟩
  have HB := Lib.hid hb1
  clear hb1
  go_wp2_with fail
  refine (cut2_calls w1 a1 a2 l arcs (HH.out.1.below HB.out) (HH.out.2.below HB.out)).mono ?_
  clear HH
  rintro e w2 ⟨v1, v2, rfl, hT⟩
  obtain ⟨L, hL⟩ : ∃ L, l.take 60 = L := ⟨_, rfl⟩
  obtain ⟨R, hR⟩ : ∃ R, arcs.take 240 = R := ⟨_, rfl⟩
  have hLn : L.length ≤ 60 := by rw [← hL, List.length_take]; omega
  have hRn : R.length ≤ 240 := by rw [← hR, List.length_take]; omega
  rw [hL, hR] at hT
  obtain ⟨A1, c1, rfl⟩ := own_slice hT.r1
  obtain ⟨A2, c2, rfl⟩ := own_slice hT.r2
  have HV := Lib.hid (RdI.of_own hT.r1).1
  have HA := Lib.hid (RdA.of_own hT.r2).1
  have HVV := Lib.hid (RdV.of_own hT.r1 (ints_one L))
  have HAV := Lib.hid (RdV.of_own hT.r2 (arcs2_one R))
  have HB2 := Lib.hid (HB.out.trans (hT.b.mono HB.out.size))
  clear hT hL hR l arcs HB
  obtain ⟨code, ls, ts, p1, p2, z1, z2, n1, n2, n3, n4⟩ := own_plain L R hLn hRn
  have P1 := Lib.hid p1
  have P2 := Lib.hid p2
  have P4 := Lib.hid n4
  have Z1 := Lib.hid z1
  have Z2 := Lib.hid z2
  have N1 := Lib.hid n1
  have N2 := Lib.hid n2
  have N3 := Lib.hid n3
  clear p1 p2 z1 z2 n1 n2 n3 n4
  go_upto_region 4 with (fail)
  go_wp2_with ((at_builtin; first | (refine wpList_append_any rfl (.tmp 29) (.tmp 30) 22 rfl w2.heap.size 3 i1 (.int .i64 0) 1 8 Try.underlying22 hi1 hz1 hs1 hy1 rfl (by omega) _ 0 [] rfl (own_made rfl (Nat.le_refl _)) _ rfl L.length (ints L) (HVV.out.below ((Below.refl _ _).alloc (Nat.le_refl _) (.cells #[] 3))) (by unfold maxLen; omega) (by omega) (by simp) ?_; intro v3 w3 ho hg hn; rw [Nat.zero_add, List.nil_append] at ho; have hone := (One.mk (own_made rfl (Nat.le_refl _)) ((Below.refl _ _).alloc (Nat.le_refl _) _) : One w2 3 1 (.slice (some ⟨w2.heap.size, 0, none⟩) 0 0) 0 [] (w2.alloc (.cells #[] 3))).grow ho hg; have H3 := Lib.hid hone; clear ho hg hn hone) | (refine wpList_append_any rfl (.tmp 31) (.tmp 32) 22 rfl w2.heap.size 3 i1 (.int .i64 0) 1 8 Try.underlying22 hi1 hz1 hs1 hy1 rfl (by omega) _ L.length (ints L) rfl (H3.out.r.alloc (.cells #[.int .i64 777] 3)) _ rfl 1 [.int .i64 777] (RdV.lit w3 #[.int .i64 777] 3 1 1 1 rfl (by simp [Value.oneCell'])) (by unfold maxLen; omega) (by omega) (by have := H3.out.b.size; simp; omega) ?_; intro v4 w4 ho hg hn; have hone := (H3.out.below ((Below.refl _ _).alloc (Nat.le_refl _) (.cells #[.int .i64 777] 3))).grow ho hg; have H4 := Lib.hid hone; clear ho hg hn hone H3) | (refine wpList_append_any rfl (.tmp 34) (.tmp 35) 23 rfl w2.heap.size 34 i2 (.agg #[.int .i64 0, .int .i64 0]) 2 16 Try.underlying23 hi2 hz2 hs2 hy2 rfl (by omega) _ 0 [] rfl (own_made rfl H4.out.b.size) _ rfl R.length (arcs2 R) (HAV.out.below (H4.out.b.alloc H4.out.b.size (.cells #[] 34))) (by unfold maxLen; omega) (by omega) (by have := H4.out.b.size; simp; omega) ?_; intro v5 w5 ho hg hn; rw [Nat.zero_add, List.nil_append] at ho; have htwo := (H4.out.and (w' := w4.alloc (.cells #[] 34)) (e2 := 34) (s2 := 2) (v2 := .slice (some ⟨w4.heap.size, 0, none⟩) 0 0) (own_made rfl (Nat.le_refl _)) ((Below.refl _ _).alloc (Nat.le_refl _) _) rfl).grow2 ho hg hn; have H5 := Lib.hid htwo; clear ho hg hn htwo H4) | (refine wpList_append_any rfl (.tmp 36) (.tmp 38) 23 rfl w2.heap.size 34 i2 (.agg #[.int .i64 0, .int .i64 0]) 2 16 Try.underlying23 hi2 hz2 hs2 hy2 rfl (by omega) _ R.length (arcs2 R) rfl (H5.out.r2.alloc (.cells #[.int .i64 7, .int .i64 8] 34)) _ rfl 1 [.int .i64 7, .int .i64 8] (RdV.lit w5 #[.int .i64 7, .int .i64 8] 34 1 2 1 rfl (by simp [Value.oneCell'])) (by unfold maxLen; omega) (by omega) (by have := H5.out.b.size; simp; omega) ?_; intro v6 w6 ho hg hn; have htwo := (H5.out.below ((Below.refl _ _).alloc (Nat.le_refl _) (.cells #[.int .i64 7, .int .i64 8] 34))).grow2 ho hg hn; have H6 := Lib.hid htwo; clear ho hg hn htwo H5)))
  obtain ⟨A5, c5, rfl⟩ := own_slice H6.out.r1
  obtain ⟨A6, c6, rfl⟩ := own_slice H6.out.r2
  have g1 : (L.length : Int) ≤ (c5 : Int) := by have := own_cap H6.out.r1; omega
  have g2 : (R.length : Int) ≤ (c6 : Int) := by have := own_cap H6.out.r2; omega
  have g3 : (0 : Int) ≤ (L.length : Int) := by omega
  have g4 : (0 : Int) ≤ (R.length : Int) := by omega
  have hv5 : RdI w6 A5 (L ++ [777]) := (RdI.of_own (l := L ++ [777]) (by have := H6.out.r1; rw [ints_snoc] at this; exact this)).1
  have ha6 : RdA w6 A6 (R ++ [(7, 8)]) := (RdA.of_own (l := R ++ [(7, 8)]) (by have := H6.out.r2; rw [arcs2_append]; exact this)).1
  obtain ⟨b5, rfl, cz⟩ := hv5 L.length 777 (by simp)
  obtain ⟨b6, rfl, cu, cv⟩ := ha6 R.length 7 8 (by simp)
  have hv5d : RdI w6.drew (some ⟨b5, 0, none⟩) L := RdI.take hv5
  have ha6d : RdA w6.drew (some ⟨b6, 0, none⟩) R := RdA.take ha6
  have HC5 := Lib.hid (of_own_rows w6.drew _ _ c5 c6 L R hv5d ha6d (by omega) (by omega) 1000 code ls P1.out Z1.out)
  have HV5 := Lib.hid hv5
  have HA6 := Lib.hid ha6
  have CZ := Lib.hid cz
  have CU := Lib.hid cu
  have CV := Lib.hid cv
  have HB6 := Lib.hid H6.out.b
  clear hv5 ha6 cz cu cv hv5d ha6d HVV HAV H6
  refine start_ (n := 14) (S := fun w' => True) (ds := []) #[false, false, false, false, false, false, false, false, false, false, false, false, false, false] (by kernel_rfl) rfl rfl trivial (fun hHeld => ?_)
  refine with_tabW tb7_5.tab5 tb7_5.bits5 (fun HT_ HW_ => ?_)
  refine pure_ (i := 0) (N := some 41) (v := ?_) (a' := ?_) #[true, false, false, false, false, false, false, false, false, false, false, false, false, false] rfl rfl (any_of HT_.out (by kernel_rfl)) (fun _ _ _ h => h) (Or.inl ⟨by rfl, ?_⟩) ?_ ?_
  rotate_left
  · intro w'
    go_simp
    with_reducible rfl
  rotate_left
  · simp only [Act.put, List.setIfInBounds_toArray, List.set_cons_zero, List.set_cons_succ, i64_w, i32_w]
    rfl
  refine pure_ (i := 1) (N := some 42) (v := ?_) (a' := ?_) #[true, true, false, false, false, false, false, false, false, false, false, false, false, false] rfl rfl (any_of HT_.out (by kernel_rfl)) (fun _ _ _ h => h) (Or.inl ⟨by rfl, ?_⟩) ?_ ?_
  rotate_left
  · intro w'
    go_simp
    with_reducible rfl
  rotate_left
  · simp only [Act.put, List.setIfInBounds_toArray, List.set_cons_zero, List.set_cons_succ, i64_w, i32_w]
    rfl
  refine pure_ (i := 2) (N := some 43) (v := ?_) (a' := ?_) #[true, true, true, false, false, false, false, false, false, false, false, false, false, false] rfl rfl (any_of HT_.out (by kernel_rfl)) (fun _ _ _ h => h) (Or.inl ⟨by rfl, ?_⟩) ?_ ?_
  rotate_left
  · intro w'
    go_simp
    with_reducible rfl
  rotate_left
  · simp only [Act.put, List.setIfInBounds_toArray, List.set_cons_zero, List.set_cons_succ, i64_w, i32_w]
    rfl
  refine pure_ (i := 3) (N := some 44) (v := ?_) (a' := ?_) #[true, true, true, true, false, false, false, false, false, false, false, false, false, false] rfl rfl (any_of HT_.out (by kernel_rfl)) (fun _ _ _ h => h) (Or.inl ⟨by rfl, ?_⟩) ?_ ?_
  rotate_left
  · intro w'
    go_simp
    with_reducible rfl
  rotate_left
  · simp only [Act.put, List.setIfInBounds_toArray, List.set_cons_zero, List.set_cons_succ, i64_w, i32_w]
    rfl
  refine pure_ (i := 4) (N := some 45) (v := ?_) (a' := ?_) #[true, true, true, true, true, false, false, false, false, false, false, false, false, false] rfl rfl (any_of HT_.out (by kernel_rfl)) (fun _ _ _ h => h) (Or.inl ⟨by rfl, ?_⟩) ?_ ?_
  rotate_left
  · intro w'
    go_simp
    with_reducible rfl
  rotate_left
  · simp only [Act.put, List.setIfInBounds_toArray, List.set_cons_zero, List.set_cons_succ, i64_w, i32_w]
    rfl
  refine pure_ (i := 5) (N := some 46) (v := ?_) (a' := ?_) #[true, true, true, true, true, true, false, false, false, false, false, false, false, false] rfl rfl (any_of HT_.out (by kernel_rfl)) (fun _ _ _ h => h) (Or.inl ⟨by rfl, ?_⟩) ?_ ?_
  rotate_left
  · intro w'
    go_simp
    with_reducible rfl
  rotate_left
  · simp only [Act.put, List.setIfInBounds_toArray, List.set_cons_zero, List.set_cons_succ, i64_w, i32_w]
    rfl
  refine pure_ (i := 6) (N := some 47) (v := ?_) (a' := ?_) #[true, true, true, true, true, true, true, false, false, false, false, false, false, false] rfl rfl (any_of HT_.out (by kernel_rfl)) (fun _ _ _ h => h) (Or.inl ⟨by rfl, ?_⟩) ?_ ?_
  rotate_left
  · intro w'
    go_simp
    with_reducible rfl
  rotate_left
  · simp only [Act.put, List.setIfInBounds_toArray, List.set_cons_zero, List.set_cons_succ, i64_w, i32_w]
    rfl
  refine pure_ (i := 7) (N := some 48) (v := ?_) (a' := ?_) #[true, true, true, true, true, true, true, true, false, false, false, false, false, false] rfl rfl (any_of HT_.out (by kernel_rfl)) (fun _ _ _ h => h) (Or.inl ⟨by rfl, ?_⟩) ?_ ?_
  rotate_left
  · intro w'
    go_simp
    with_reducible rfl
  rotate_left
  · simp only [Act.put, List.setIfInBounds_toArray, List.set_cons_zero, List.set_cons_succ, i64_w, i32_w]
    rfl
  refine one_ (i := 8) (N := some 49) #[true, true, true, true, true, true, true, true, true, false, false, false, false, false] rfl rfl (one_of HT_.out (by kernel_rfl)) (by decide) (fun K hK => ?_)
  refine goes_ Try.func10 (by kernel_rfl) rfl #[.slice (some ⟨b5, 0, none⟩) L.length c5, .slice (some ⟨b6, 0, none⟩) R.length c6] (by rfl) rfl rfl (by simp only [List.map_toArray, List.map_cons, List.map_nil]; rfl) ?_
  with_reducible refine (HC5.out).mono ?_
  rintro e w7 ⟨A7, c7, vals, rfl, hrd, hrz, hb7⟩
  refine ⟨_, rfl, ?_⟩
  refine hK.out _ _ trivial (fun hHeld => ?_)
  clear hK K
  refine norm_ (a' := ?_) ?_ ?_
  rotate_left
  · show Act.put _ (some 49) _ = _
    simp only [Act.put, List.setIfInBounds_toArray, List.set_cons_zero, List.set_cons_succ, i64_w, i32_w]
    rfl
  refine pure_ (i := 9) (N := some 40) (v := ?_) (a' := ?_) #[true, true, true, true, true, true, true, true, true, true, false, false, false, false] rfl rfl (any_of HT_.out (by kernel_rfl)) (fun _ _ _ h => h) (Or.inl ⟨by rfl, ?_⟩) ?_ ?_
  rotate_left
  · intro w'
    go_simp
    with_reducible rfl
  rotate_left
  · simp only [Act.put, List.setIfInBounds_toArray, List.set_cons_zero, List.set_cons_succ, i64_w, i32_w]
    rfl
  refine pure_ (i := 10) (N := some 50) (v := ?_) (a' := ?_) #[true, true, true, true, true, true, true, true, true, true, true, false, false, false] rfl rfl (any_of HT_.out (by kernel_rfl)) (fun _ _ _ h => h) (Or.inl ⟨by rfl, ?_⟩) ?_ ?_
  rotate_left
  · intro w'
    go_simp
    with_reducible rfl
  rotate_left
  · simp only [Act.put, List.setIfInBounds_toArray, List.set_cons_zero, List.set_cons_succ, i64_w, i32_w]
    rfl
  refine pure_ (i := 11) (N := some 51) (v := ?_) (a' := ?_) #[true, true, true, true, true, true, true, true, true, true, true, true, false, false] rfl rfl (any_of HT_.out (by kernel_rfl)) (fun _ _ _ h => h) (Or.inl ⟨by rfl, ?_⟩) ?_ ?_
  rotate_left
  · intro w'
    go_simp
    with_reducible rfl
  rotate_left
  · simp only [Act.put, List.setIfInBounds_toArray, List.set_cons_zero, List.set_cons_succ, i64_w, i32_w]
    rfl
  refine pure_ (i := 12) (N := some 7) (v := ?_) (a' := ?_) #[true, true, true, true, true, true, true, true, true, true, true, true, true, false] rfl rfl (any_of HT_.out (by kernel_rfl)) (fun _ _ _ h => h) (Or.inl ⟨by rfl, ?_⟩) ?_ ?_
  rotate_left
  · intro w'
    go_simp
    with_reducible rfl
  rotate_left
  · simp only [Act.put, List.setIfInBounds_toArray, List.set_cons_zero, List.set_cons_succ, i64_w, i32_w]
    rfl
  refine pure_ (i := 13) (N := some 8) (v := ?_) (a' := ?_) #[true, true, true, true, true, true, true, true, true, true, true, true, true, true] rfl rfl (any_of HT_.out (by kernel_rfl)) (fun _ _ _ h => h) (Or.inl ⟨by rfl, ?_⟩) ?_ ?_
  rotate_left
  · intro w'
    go_simp
    with_reducible rfl
  rotate_left
  · simp only [Act.put, List.setIfInBounds_toArray, List.set_cons_zero, List.set_cons_succ, i64_w, i32_w]
    rfl
  refine done_ (done_of HT_.out (by kernel_rfl)) ?_
  clear hHeld HT_ HW_
  have hb67 : Below w6.heap.size w6 w7 := ⟨hb7.os, hb7.tape, hb7.output, hb7.size, hb7.block⟩
  have hrz' : Rz w7 w6.heap.size vals ls := hrz
  have hv7d : RdI w7.drew (some ⟨b5, 0, none⟩) L := RdI.take (HV5.out.below hb67.drew)
  have ha7d : RdA w7.drew (some ⟨b6, 0, none⟩) R := RdA.take (HA6.out.below hb67.drew)
  have HC6 := Lib.hid (order_own_row w7.drew _ _ c5 c6 L R hv7d ha7d (by omega) (by omega) 1000 code ts P2.out Z2.out)
  have HB7 := Lib.hid hb67
  have HRD := Lib.hid hrd
  have HRZ := Lib.hid hrz'
  clear hb67 hrz' hrz hrd hb7 hv7d ha7d HC5
  go_wp2
  refine start_ (n := 14) (S := fun w' => True) (ds := []) #[false, false, false, false, false, false, false, false, false, false, false, false, false, false] (by kernel_rfl) rfl rfl trivial (fun hHeld => ?_)
  refine with_tabW tb7_6.tab6 tb7_6.bits6 (fun HT_ HW_ => ?_)
  refine pure_ (i := 0) (N := some 53) (v := ?_) (a' := ?_) #[true, false, false, false, false, false, false, false, false, false, false, false, false, false] rfl rfl (any_of HT_.out (by kernel_rfl)) (fun _ _ _ h => h) (Or.inl ⟨by rfl, ?_⟩) ?_ ?_
  rotate_left
  · intro w'
    go_simp
    with_reducible rfl
  rotate_left
  · simp only [Act.put, List.setIfInBounds_toArray, List.set_cons_zero, List.set_cons_succ, i64_w, i32_w]
    rfl
  refine pure_ (i := 1) (N := some 54) (v := ?_) (a' := ?_) #[true, true, false, false, false, false, false, false, false, false, false, false, false, false] rfl rfl (any_of HT_.out (by kernel_rfl)) (fun _ _ _ h => h) (Or.inl ⟨by rfl, ?_⟩) ?_ ?_
  rotate_left
  · intro w'
    go_simp
    with_reducible rfl
  rotate_left
  · simp only [Act.put, List.setIfInBounds_toArray, List.set_cons_zero, List.set_cons_succ, i64_w, i32_w]
    rfl
  refine pure_ (i := 2) (N := some 55) (v := ?_) (a' := ?_) #[true, true, true, false, false, false, false, false, false, false, false, false, false, false] rfl rfl (any_of HT_.out (by kernel_rfl)) (fun _ _ _ h => h) (Or.inl ⟨by rfl, ?_⟩) ?_ ?_
  rotate_left
  · intro w'
    go_simp
    with_reducible rfl
  rotate_left
  · simp only [Act.put, List.setIfInBounds_toArray, List.set_cons_zero, List.set_cons_succ, i64_w, i32_w]
    rfl
  refine pure_ (i := 3) (N := some 56) (v := ?_) (a' := ?_) #[true, true, true, true, false, false, false, false, false, false, false, false, false, false] rfl rfl (any_of HT_.out (by kernel_rfl)) (fun _ _ _ h => h) (Or.inl ⟨by rfl, ?_⟩) ?_ ?_
  rotate_left
  · intro w'
    go_simp
    with_reducible rfl
  rotate_left
  · simp only [Act.put, List.setIfInBounds_toArray, List.set_cons_zero, List.set_cons_succ, i64_w, i32_w]
    rfl
  refine pure_ (i := 4) (N := some 57) (v := ?_) (a' := ?_) #[true, true, true, true, true, false, false, false, false, false, false, false, false, false] rfl rfl (any_of HT_.out (by kernel_rfl)) (fun _ _ _ h => h) (Or.inl ⟨by rfl, ?_⟩) ?_ ?_
  rotate_left
  · intro w'
    go_simp
    with_reducible rfl
  rotate_left
  · simp only [Act.put, List.setIfInBounds_toArray, List.set_cons_zero, List.set_cons_succ, i64_w, i32_w]
    rfl
  refine pure_ (i := 5) (N := some 58) (v := ?_) (a' := ?_) #[true, true, true, true, true, true, false, false, false, false, false, false, false, false] rfl rfl (any_of HT_.out (by kernel_rfl)) (fun _ _ _ h => h) (Or.inl ⟨by rfl, ?_⟩) ?_ ?_
  rotate_left
  · intro w'
    go_simp
    with_reducible rfl
  rotate_left
  · simp only [Act.put, List.setIfInBounds_toArray, List.set_cons_zero, List.set_cons_succ, i64_w, i32_w]
    rfl
  refine pure_ (i := 6) (N := some 59) (v := ?_) (a' := ?_) #[true, true, true, true, true, true, true, false, false, false, false, false, false, false] rfl rfl (any_of HT_.out (by kernel_rfl)) (fun _ _ _ h => h) (Or.inl ⟨by rfl, ?_⟩) ?_ ?_
  rotate_left
  · intro w'
    go_simp
    with_reducible rfl
  rotate_left
  · simp only [Act.put, List.setIfInBounds_toArray, List.set_cons_zero, List.set_cons_succ, i64_w, i32_w]
    rfl
  refine pure_ (i := 7) (N := some 60) (v := ?_) (a' := ?_) #[true, true, true, true, true, true, true, true, false, false, false, false, false, false] rfl rfl (any_of HT_.out (by kernel_rfl)) (fun _ _ _ h => h) (Or.inl ⟨by rfl, ?_⟩) ?_ ?_
  rotate_left
  · intro w'
    go_simp
    with_reducible rfl
  rotate_left
  · simp only [Act.put, List.setIfInBounds_toArray, List.set_cons_zero, List.set_cons_succ, i64_w, i32_w]
    rfl
  refine one_ (i := 8) (N := some 61) #[true, true, true, true, true, true, true, true, true, false, false, false, false, false] rfl rfl (one_of HT_.out (by kernel_rfl)) (by decide) (fun K hK => ?_)
  refine goes_ Try.func11 (by kernel_rfl) rfl #[.slice (some ⟨b5, 0, none⟩) L.length c5, .slice (some ⟨b6, 0, none⟩) R.length c6] (by rfl) rfl rfl (by simp only [List.map_toArray, List.map_cons, List.map_nil]; rfl) ?_
  with_reducible refine (HC6.out).mono ?_
  rintro e w8 ⟨A9, c9, rfl, ho8, hb8⟩
  refine ⟨_, rfl, ?_⟩
  refine hK.out _ _ trivial (fun hHeld => ?_)
  clear hK K
  refine norm_ (a' := ?_) ?_ ?_
  rotate_left
  · show Act.put _ (some 61) _ = _
    simp only [Act.put, List.setIfInBounds_toArray, List.set_cons_zero, List.set_cons_succ, i64_w, i32_w]
    rfl
  refine pure_ (i := 9) (N := some 52) (v := ?_) (a' := ?_) #[true, true, true, true, true, true, true, true, true, true, false, false, false, false] rfl rfl (any_of HT_.out (by kernel_rfl)) (fun _ _ _ h => h) (Or.inl ⟨by rfl, ?_⟩) ?_ ?_
  rotate_left
  · intro w'
    go_simp
    with_reducible rfl
  rotate_left
  · simp only [Act.put, List.setIfInBounds_toArray, List.set_cons_zero, List.set_cons_succ, i64_w, i32_w]
    rfl
  refine pure_ (i := 10) (N := some 62) (v := ?_) (a' := ?_) #[true, true, true, true, true, true, true, true, true, true, true, false, false, false] rfl rfl (any_of HT_.out (by kernel_rfl)) (fun _ _ _ h => h) (Or.inl ⟨by rfl, ?_⟩) ?_ ?_
  rotate_left
  · intro w'
    go_simp
    with_reducible rfl
  rotate_left
  · simp only [Act.put, List.setIfInBounds_toArray, List.set_cons_zero, List.set_cons_succ, i64_w, i32_w]
    rfl
  refine pure_ (i := 11) (N := some 63) (v := ?_) (a' := ?_) #[true, true, true, true, true, true, true, true, true, true, true, true, false, false] rfl rfl (any_of HT_.out (by kernel_rfl)) (fun _ _ _ h => h) (Or.inl ⟨by rfl, ?_⟩) ?_ ?_
  rotate_left
  · intro w'
    go_simp
    with_reducible rfl
  rotate_left
  · simp only [Act.put, List.setIfInBounds_toArray, List.set_cons_zero, List.set_cons_succ, i64_w, i32_w]
    rfl
  refine pure_ (i := 12) (N := some 9) (v := ?_) (a' := ?_) #[true, true, true, true, true, true, true, true, true, true, true, true, true, false] rfl rfl (any_of HT_.out (by kernel_rfl)) (fun _ _ _ h => h) (Or.inl ⟨by rfl, ?_⟩) ?_ ?_
  rotate_left
  · intro w'
    go_simp
    with_reducible rfl
  rotate_left
  · simp only [Act.put, List.setIfInBounds_toArray, List.set_cons_zero, List.set_cons_succ, i64_w, i32_w]
    rfl
  refine pure_ (i := 13) (N := some 10) (v := ?_) (a' := ?_) #[true, true, true, true, true, true, true, true, true, true, true, true, true, true] rfl rfl (any_of HT_.out (by kernel_rfl)) (fun _ _ _ h => h) (Or.inl ⟨by rfl, ?_⟩) ?_ ?_
  rotate_left
  · intro w'
    go_simp
    with_reducible rfl
  rotate_left
  · simp only [Act.put, List.setIfInBounds_toArray, List.set_cons_zero, List.set_cons_succ, i64_w, i32_w]
    rfl
  refine done_ (done_of HT_.out (by kernel_rfl)) ?_
  clear hHeld HT_ HW_
  have hb78 : Below w7.heap.size w7 w8 := ⟨hb8.os, hb8.tape, hb8.output, hb8.size, hb8.block⟩
  have hb68 := HB7.out.trans (hb78.mono HB7.out.size)
  have ho8' : w8.ownsRow w7.heap.size 3 1 (.slice A9 ts.length c9) ts.length (ints ts) := ho8
  have hv8d : RdI w8.drew (some ⟨b5, 0, none⟩) L := RdI.take (HV5.out.below hb68.drew)
  have ha8d : RdA w8.drew (some ⟨b6, 0, none⟩) R := RdA.take (HA6.out.below hb68.drew)
  obtain ⟨ab, hab⟩ := P4.out
  have HC7 := Lib.hid (acy_rd w8.drew _ _ c5 c6 L R hv8d ha8d (by omega) (by omega) 1000 code ab hab)
  have HRD8 := Lib.hid (HRD.out.below hb78)
  have HRZ8 := Lib.hid (HRZ.out.snoc hb78 (Nat.le_refl _) HB7.out.size ho8')
  have HB8 := Lib.hid hb68
  clear hb78 hb68 ho8' hv8d ha8d hab ho8 hb8 HC6 HRD HRZ HB7
  go_wp2
  refine start_ (n := 9) (S := fun w' => True) (ds := []) #[false, false, false, false, false, false, false, false, false] (by kernel_rfl) rfl rfl trivial (fun hHeld => ?_)
  refine with_tabW tb7_7.tab7 tb7_7.bits7 (fun HT_ HW_ => ?_)
  refine pure_ (i := 0) (N := some 64) (v := ?_) (a' := ?_) #[true, false, false, false, false, false, false, false, false] rfl rfl (any_of HT_.out (by kernel_rfl)) (fun _ _ _ h => h) (Or.inl ⟨by rfl, ?_⟩) ?_ ?_
  rotate_left
  · intro w'
    go_simp
    with_reducible rfl
  rotate_left
  · simp only [Act.put, List.setIfInBounds_toArray, List.set_cons_zero, List.set_cons_succ, i64_w, i32_w]
    rfl
  refine pure_ (i := 1) (N := some 65) (v := ?_) (a' := ?_) #[true, true, false, false, false, false, false, false, false] rfl rfl (any_of HT_.out (by kernel_rfl)) (fun _ _ _ h => h) (Or.inl ⟨by rfl, ?_⟩) ?_ ?_
  rotate_left
  · intro w'
    go_simp
    with_reducible rfl
  rotate_left
  · simp only [Act.put, List.setIfInBounds_toArray, List.set_cons_zero, List.set_cons_succ, i64_w, i32_w]
    rfl
  refine pure_ (i := 2) (N := some 66) (v := ?_) (a' := ?_) #[true, true, true, false, false, false, false, false, false] rfl rfl (any_of HT_.out (by kernel_rfl)) (fun _ _ _ h => h) (Or.inl ⟨by rfl, ?_⟩) ?_ ?_
  rotate_left
  · intro w'
    go_simp
    with_reducible rfl
  rotate_left
  · simp only [Act.put, List.setIfInBounds_toArray, List.set_cons_zero, List.set_cons_succ, i64_w, i32_w]
    rfl
  refine pure_ (i := 3) (N := some 67) (v := ?_) (a' := ?_) #[true, true, true, true, false, false, false, false, false] rfl rfl (any_of HT_.out (by kernel_rfl)) (fun _ _ _ h => h) (Or.inl ⟨by rfl, ?_⟩) ?_ ?_
  rotate_left
  · intro w'
    go_simp
    with_reducible rfl
  rotate_left
  · simp only [Act.put, List.setIfInBounds_toArray, List.set_cons_zero, List.set_cons_succ, i64_w, i32_w]
    rfl
  refine pure_ (i := 4) (N := some 68) (v := ?_) (a' := ?_) #[true, true, true, true, true, false, false, false, false] rfl rfl (any_of HT_.out (by kernel_rfl)) (fun _ _ _ h => h) (Or.inl ⟨by rfl, ?_⟩) ?_ ?_
  rotate_left
  · intro w'
    go_simp
    with_reducible rfl
  rotate_left
  · simp only [Act.put, List.setIfInBounds_toArray, List.set_cons_zero, List.set_cons_succ, i64_w, i32_w]
    rfl
  refine pure_ (i := 5) (N := some 69) (v := ?_) (a' := ?_) #[true, true, true, true, true, true, false, false, false] rfl rfl (any_of HT_.out (by kernel_rfl)) (fun _ _ _ h => h) (Or.inl ⟨by rfl, ?_⟩) ?_ ?_
  rotate_left
  · intro w'
    go_simp
    with_reducible rfl
  rotate_left
  · simp only [Act.put, List.setIfInBounds_toArray, List.set_cons_zero, List.set_cons_succ, i64_w, i32_w]
    rfl
  refine pure_ (i := 6) (N := some 70) (v := ?_) (a' := ?_) #[true, true, true, true, true, true, true, false, false] rfl rfl (any_of HT_.out (by kernel_rfl)) (fun _ _ _ h => h) (Or.inl ⟨by rfl, ?_⟩) ?_ ?_
  rotate_left
  · intro w'
    go_simp
    with_reducible rfl
  rotate_left
  · simp only [Act.put, List.setIfInBounds_toArray, List.set_cons_zero, List.set_cons_succ, i64_w, i32_w]
    rfl
  refine pure_ (i := 7) (N := some 71) (v := ?_) (a' := ?_) #[true, true, true, true, true, true, true, true, false] rfl rfl (any_of HT_.out (by kernel_rfl)) (fun _ _ _ h => h) (Or.inl ⟨by rfl, ?_⟩) ?_ ?_
  rotate_left
  · intro w'
    go_simp
    with_reducible rfl
  rotate_left
  · simp only [Act.put, List.setIfInBounds_toArray, List.set_cons_zero, List.set_cons_succ, i64_w, i32_w]
    rfl
  refine one_ (i := 8) (N := some 72) #[true, true, true, true, true, true, true, true, true] rfl rfl (one_of HT_.out (by kernel_rfl)) (by decide) (fun K hK => ?_)
  refine goes_ Try.func15 (by kernel_rfl) rfl #[.slice (some ⟨b5, 0, none⟩) L.length c5, .slice (some ⟨b6, 0, none⟩) R.length c6] (by rfl) rfl rfl (by simp only [List.map_toArray, List.map_cons, List.map_nil]; rfl) ?_
  with_reducible refine (HC7.out).mono ?_
  rintro e w9 ⟨rfl, hb9⟩
  refine ⟨_, rfl, ?_⟩
  refine hK.out _ _ trivial (fun hHeld => ?_)
  clear hK K
  refine norm_ (a' := ?_) ?_ ?_
  rotate_left
  · show Act.put _ (some 72) _ = _
    simp only [Act.put, List.setIfInBounds_toArray, List.set_cons_zero, List.set_cons_succ, i64_w, i32_w]
    rfl
  refine done_ (done_of HT_.out (by kernel_rfl)) ?_
  clear hHeld HT_ HW_
  have hb89 : Below w8.heap.size w8 w9 := ⟨hb9.os, hb9.tape, hb9.output, hb9.size, hb9.block⟩
  have hb69 := HB8.out.trans (hb89.mono HB8.out.size)
  have HRD9 := Lib.hid (HRD8.out.below hb89)
  have HRZ9 := Lib.hid (HRZ8.out.below hb89)
  have HB9 := Lib.hid hb69
  have hz := keep_cell hb69 CZ.out
  have hu := keep_cell hb69 CU.out
  have hv := keep_cell hb69 CV.out
  have HV9 := Lib.hid (HV.out.below (HB6.out.trans (hb69.mono HB6.out.size)))
  have HA9 := Lib.hid (HA.out.below (HB6.out.trans (hb69.mono HB6.out.size)))
  have HV59 := Lib.hid (HV5.out.below hb69)
  have HA69 := Lib.hid (HA6.out.below hb69)
  have HBW6 := Lib.hid (HB2.out.trans (HB6.out.mono HB2.out.size))
  have HB29 := Lib.hid (HB2.out.trans ((HB6.out.trans (hb69.mono HB6.out.size)).mono HB2.out.size))
  clear hb89 hb69 hb9 HC7 HRD8 HRZ8 HB8 CZ CU CV HV HA HV5 HA6 HB2 HB6
  go_wp2_with fail
  refine (sameInts_calls w9 _ A1 c5 c1 L L (RdI.take HV59.out) HV9.out (by omega)).mono ?_
  rintro e w10 ⟨rfl, q, rfl⟩
  rw [decide_eq_true (rfl : L = L)]
  have k1 : (L.length : Int) < (L.length : Int) + 1 := by omega
  have k2 : (R.length : Int) < (R.length : Int) + 1 := by omega
  go_wp2_with fail
  clear k1 k2 hz hu hv g1 g2
  go_loopg [11, 99] R.length (fun kq v11 v99 w' => ∃ i : Nat, v99 = .int .i64 (i : Int) ∧ Hid (i + kq = R.length ∧ ∃ q, w' = w9.drewN q))
  case atStart => exact ⟨0, rfl, Lib.hid ⟨by omega, q, rfl⟩⟩
  case round =>
    clear q
    obtain ⟨i, rfl, hI⟩ := hrel
    obtain ⟨hik, q, rfl⟩ := hI.out
    clear hI
    by_cases hi : i < R.length
    · obtain ⟨k1, rfl⟩ : ∃ k1, gk = k1 + 1 := ⟨gk - 1, by omega⟩
      obtain ⟨⟨u, v⟩, hxx⟩ : ∃ x, R[i] = x := ⟨_, rfl⟩
      have hx : R[i]? = some (u, v) := by rw [List.getElem?_eq_getElem hi, hxx]
      obtain ⟨b2, rfl, y0', y1'⟩ := HA9.out i u v hx
      obtain ⟨_, he, x0', x1'⟩ := HA69.out i u v (by rw [List.getElem?_append_left hi]; exact hx)
      cases he
      have x0 : (w9.drewN q).cell? ⟨b6, i * 2, none⟩ = some (.int .i64 u) := x0'
      have x1 : (w9.drewN q).cell? ⟨b6, i * 2 + 1, none⟩ = some (.int .i64 v) := x1'
      have y0 : (w9.drewN q).cell? ⟨b2, i * 2, none⟩ = some (.int .i64 u) := y0'
      have y1 : (w9.drewN q).cell? ⟨b2, i * 2 + 1, none⟩ = some (.int .i64 v) := y1'
      have j0 : (0 : Int) ≤ (i : Int) := by omega
      have j1 : (i : Int) < (R.length : Int) := by omega
      have j3 : (i : Int) < (R.length : Int) + 1 := by omega
      have j2 : (R.length : Int) ≤ 240 := by omega
      have HIK := Lib.hid hik
      clear x0' x1' y0' y1' hx hxx hik hi
      go_upto_region 13 with (fail)
      refine start_ (n := 9) (S := fun w' => w'.cell? ⟨b6, i * 2, none⟩ = some (.int .i64 u) ∧ w'.cell? ⟨b6, i * 2 + 1, none⟩ = some (.int .i64 v) ∧ w'.cell? ⟨b2, i * 2, none⟩ = some (.int .i64 u) ∧ w'.cell? ⟨b2, i * 2 + 1, none⟩ = some (.int .i64 v)) (ds := []) #[false, false, false, false, false, false, false, false, false] (by kernel_rfl) rfl rfl ⟨x0, x1, y0, y1⟩ (fun hHeld => ?_)
      refine with_tabW tb7_13.tab13 tb7_13.bits13 (fun HT_ HW_ => ?_)
      refine pure_ (i := 0) (N := some 102) (v := ?_) (a' := ?_) #[true, false, false, false, false, false, false, false, false] rfl rfl (any_of HT_.out (by kernel_rfl)) (fun _ _ _ h => h) (Or.inl ⟨by rfl, ?_⟩) ?_ ?_
      rotate_left
      · intro w'
        go_simp
        with_reducible rfl
      rotate_left
      · simp only [Act.put, List.setIfInBounds_toArray, List.set_cons_zero, List.set_cons_succ, i64_w, i32_w]
        rfl
      refine pure_ (i := 1) (N := some 103) (v := ?_) (a' := ?_) #[true, true, false, false, false, false, false, false, false] rfl rfl (any_of HT_.out (by kernel_rfl)) (fun _ _ _ h => h) (Or.inl ⟨by rfl, ?_⟩) ?_ ?_
      rotate_left
      · intro w'
        go_simp
        with_reducible rfl
      rotate_left
      · simp only [Act.put, List.setIfInBounds_toArray, List.set_cons_zero, List.set_cons_succ, i64_w, i32_w]
        rfl
      refine pure_ (i := 2) (N := some 104) (v := ?_) (a' := ?_) #[true, true, true, false, false, false, false, false, false] rfl rfl (any_of HT_.out (by kernel_rfl)) (fun _ _ _ h => h) (Or.inl ⟨by rfl, ?_⟩) ?_ ?_
      rotate_left
      · intro w'
        go_simp
        with_reducible rfl
      rotate_left
      · simp only [Act.put, List.setIfInBounds_toArray, List.set_cons_zero, List.set_cons_succ, i64_w, i32_w]
        rfl
      refine pure_ (i := 4) (N := some 106) (v := ?_) (a' := ?_) #[true, true, true, false, true, false, false, false, false] rfl rfl (any_of HT_.out (by kernel_rfl)) (fun _ _ _ h => h) (Or.inl ⟨by rfl, ?_⟩) ?_ ?_
      rotate_left
      · intro w'
        go_simp
        with_reducible rfl
      rotate_left
      · simp only [Act.put, List.setIfInBounds_toArray, List.set_cons_zero, List.set_cons_succ, i64_w, i32_w]
        rfl
      refine pure_ (i := 5) (N := some 107) (v := ?_) (a' := ?_) #[true, true, true, false, true, true, false, false, false] rfl rfl (any_of HT_.out (by kernel_rfl)) (fun _ _ _ h => h) (Or.inl ⟨by rfl, ?_⟩) ?_ ?_
      rotate_left
      · intro w'
        go_simp
        with_reducible rfl
      rotate_left
      · simp only [Act.put, List.setIfInBounds_toArray, List.set_cons_zero, List.set_cons_succ, i64_w, i32_w]
        rfl
      refine pure_ (i := 6) (N := some 108) (v := ?_) (a' := ?_) #[true, true, true, false, true, true, true, false, false] rfl rfl (any_of HT_.out (by kernel_rfl)) (fun _ _ _ h => h) (Or.inl ⟨by rfl, ?_⟩) ?_ ?_
      rotate_left
      · intro w'
        go_simp
        with_reducible rfl
      rotate_left
      · simp only [Act.put, List.setIfInBounds_toArray, List.set_cons_zero, List.set_cons_succ, i64_w, i32_w]
        rfl
      refine take_ (i := 3) (N := some 105) (v := ?_) (a' := ?_) #[true, true, true, true, true, true, true, false, false] rfl rfl (take_ofW HT_.out HW_.out (by kernel_rfl)) (fun _ _ _ h => h) (Or.inl ⟨by rfl, ?_⟩) hHeld ?_ ?_
      rotate_left
      · rintro w' ⟨s0, s1, s2, s3⟩
        go_simp
        with_reducible rfl
      rotate_left
      · simp only [Act.put, List.setIfInBounds_toArray, List.set_cons_zero, List.set_cons_succ, i64_w, i32_w]
        rfl
      refine take_ (i := 7) (N := some 109) (v := ?_) (a' := ?_) #[true, true, true, true, true, true, true, true, false] rfl rfl (take_ofW HT_.out HW_.out (by kernel_rfl)) (fun _ _ _ h => h) (Or.inl ⟨by rfl, ?_⟩) hHeld ?_ ?_
      rotate_left
      · rintro w' ⟨s0, s1, s2, s3⟩
        go_simp
        with_reducible rfl
      rotate_left
      · simp only [Act.put, List.setIfInBounds_toArray, List.set_cons_zero, List.set_cons_succ, i64_w, i32_w]
        rfl
      refine pure_ (i := 8) (N := some 110) (v := ?_) (a' := ?_) #[true, true, true, true, true, true, true, true, true] rfl rfl (any_of HT_.out (by kernel_rfl)) (fun _ _ _ h => h) (Or.inl ⟨by rfl, ?_⟩) ?_ ?_
      rotate_left
      · intro w'
        go_simp
        with_reducible rfl
      rotate_left
      · simp only [Act.put, List.setIfInBounds_toArray, List.set_cons_zero, List.set_cons_succ, i64_w, i32_w]
        rfl
      refine done_ (done_of HT_.out (by kernel_rfl)) ?_
      clear hHeld HT_ HW_
      clear x0 x1 y0 y1
      go_wp2
      go_roundg k1
      case measure => have := HIK.out; omega
      case rel => exact ⟨i + 1, by go_num, Lib.hid ⟨by have := HIK.out; omega, q + 1, rfl⟩⟩
    · obtain rfl : i = R.length := by omega
      clear hik hi
      by_cases hc0 : code = 0
      · subst hc0
        obtain ⟨W0, hW0⟩ : ∃ W0, w9.drewN q = W0 := ⟨_, rfl⟩
        have hb90 : Below w9.heap.size w9 W0 := by rw [← hW0]; exact ⟨rfl, rfl, rfl, Nat.le_refl _, fun _ _ => rfl⟩
        have HRD0 := Lib.hid (HRD9.out.below hb90)
        have HRZ0 := Lib.hid (HRZ9.out.below hb90)
        have HB0 := Lib.hid (HB9.out.trans (hb90.mono HB9.out.size))
        have hn1 := N1.out
        rw [hW0]
        clear hW0 hb90 HRD9 HRZ9 HB9 HV9 HA9 HV59 HA69
        go_upto_region 19 with ((at_builtin; first | (refine wpList_append_any rfl (.tmp 122) (.tmp 123) 27 rfl w6.heap.size 22 i3 (.slice none 0 0) 1 24 Try.underlying27 hi3 hz3 hs3 hy3 rfl (by omega) _ 0 [] rfl (own_made rfl HB0.out.size) _ rfl ls.length vals (HRD0.out.below ((Below.refl _ _).alloc (Nat.le_refl _) (.cells #[] 22))) (by unfold maxLen; omega) (by omega) (by have := HB0.out.size; simp; omega) ?_; intro v11 w11 ho hg hn; rw [Nat.zero_add, List.nil_append] at ho; have hmade : (W0.alloc (.cells #[] 22)).ownsRow w6.heap.size 22 1 (.slice (some ⟨W0.heap.size, 0, none⟩) 0 0) 0 [] := own_made rfl HB0.out.size; have hone := (One.mk hmade (HB0.out.alloc HB0.out.size _) : One w6 22 1 _ 0 [] (W0.alloc (.cells #[] 22))).grow ho hg; have hzz := (HRZ0.out.below ((Below.refl _ _).alloc (Nat.le_refl _) (.cells #[] 22))).other hmade (by decide) hg; have H11 := Lib.hid hone; have HZ11 := Lib.hid hzz; clear ho hg hn hone hzz hmade) | (refine wpList_append_any rfl (.tmp 124) (.tmp 126) 27 rfl w6.heap.size 22 i3 (.slice none 0 0) 1 24 Try.underlying27 hi3 hz3 hs3 hy3 rfl (by omega) _ ls.length vals rfl (H11.out.r.alloc (.cells #[.slice A9 ts.length c9] 22)) _ rfl 1 [.slice A9 ts.length c9] (RdV.lit w11 #[.slice A9 ts.length c9] 22 1 1 1 rfl (by simp [Value.oneCell'])) (by unfold maxLen; omega) (by omega) (by have := H11.out.b.size; simp; omega) ?_; intro v12 w12 ho hg hn; have hone := (H11.out.below ((Below.refl _ _).alloc (Nat.le_refl _) (.cells #[.slice A9 ts.length c9] 22))).grow ho hg; have hzz := (HZ11.out.below ((Below.refl _ _).alloc (Nat.le_refl _) (.cells #[.slice A9 ts.length c9] 22))).other (H11.out.r.alloc (.cells #[.slice A9 ts.length c9] 22)) (by decide) hg; have H12 := Lib.hid hone; have HZ12 := Lib.hid hzz; clear ho hg hn hone hzz H11 HZ11)))
        have hrows : ∀ r ∈ ls ++ [ts], r.length ≤ 60 := fun r hr => by
          rcases List.mem_append.1 hr with h | h
          · exact N2.out r h
          · have := List.mem_singleton.1 h
            rw [this]
            exact N3.out
        have hv12 := H12.out.r
        obtain ⟨bl, cl, rfl, _, _⟩ := hv12.form (by omega)
        obtain ⟨N, hN⟩ : ∃ N, ls.length + 1 = N := ⟨_, rfl⟩
        have hlsn : (ls ++ [ts]).length = N := by rw [List.length_append]; exact hN
        obtain ⟨VS, hVS⟩ : ∃ VS, vals ++ [Value.slice A9 ts.length c9] = VS := ⟨_, rfl⟩
        obtain ⟨LS, hLS⟩ : ∃ LS, ls ++ [ts] = LS := ⟨_, rfl⟩
        rw [hVS, hLS] at HZ12
        rw [hVS, hN] at H12
        rw [hLS] at hrows hlsn
        rw [hN]
        have HMK : Hid (Mk N 0 LS) := Lib.hid ⟨hlsn, fun j r hj => by omega, hrows⟩
        have hN61 : N ≤ 61 := by omega
        clear hv12 hrows hlsn hN hVS hLS HRD0 HRZ0 HB0 N1 N2 N3 hn1 Z1 Z2 P1 P2 P4
        go_wp2_with fail
        go_loopg [13, 14, 130] N (fun kq v13 v14 v130 w' => ∃ i : Nat, v130 = .int .i64 (i : Int) ∧ Hid (i + kq = N ∧ ∃ cur, Rz w' w6.heap.size VS cur ∧ One w6 22 1 (.slice (some ⟨bl, 0, none⟩) N cl) N VS w' ∧ Mk N i cur))
        case atStart => exact ⟨0, rfl, Lib.hid ⟨by omega, LS, HZ12.out, H12.out, HMK.out⟩⟩
        case round =>
          clear HZ12 H12 HMK
          obtain ⟨i, rfl, hI⟩ := hrel
          obtain ⟨hik, cur, hZ, hO, hM⟩ := hI.out
          clear hI
          have hVN : VS.length = N := by rw [hZ.ln, hM.len]
          by_cases hi : i < N
          · obtain ⟨k1, rfl⟩ : ∃ k1, gk = k1 + 1 := ⟨gk - 1, by omega⟩
            obtain ⟨v, hv⟩ : ∃ v, VS[i]? = some v := ⟨_, List.getElem?_eq_getElem (by omega)⟩
            obtain ⟨r, hr⟩ : ∃ r, cur[i]? = some r := ⟨_, List.getElem?_eq_getElem (by have := hM.len; omega)⟩
            obtain ⟨A, c, rfl, _⟩ := hZ.rd hv hr
            have hcell := (hO.r.cellAt i (by omega)).trans hv
            have hst := hM.start hr
            have hr60 := hM.small r (List.mem_of_getElem? hr)
            obtain ⟨n, hn⟩ : ∃ n, r.length = n := ⟨_, rfl⟩
            rw [hn] at hst hv hcell hr60
            have HZ := Lib.hid hZ
            have HO := Lib.hid hO
            have HST := Lib.hid hst
            have HIK := Lib.hid hik
            have HV := Lib.hid hv
            have HVN := Lib.hid hVN
            have HI := Lib.hid hi
            have j0 : (0 : Int) ≤ (i : Int) := by omega
            have j1 : (i : Int) < (N : Int) := by omega
            have j2 : (N : Int) ≤ 61 := by omega
            clear hZ hO hM hst hv hr hn hVN hik hi
            go_wp2_with fail
            go_loopg [14, 138] n (fun kq v14 v138 w' => ∃ k : Nat, v138 = .int .i64 (k : Int) ∧ Hid (k + kq = n ∧ ∃ cur, Rz w' w6.heap.size VS cur ∧ One w6 22 1 (.slice (some ⟨bl, 0, none⟩) N cl) N VS w' ∧ MkR N i n k cur))
            case atStart => exact ⟨0, rfl, Lib.hid ⟨by omega, cur, HZ.out, HO.out, HST.out⟩⟩
            case round =>
              clear HZ HO HST hcell cur
              obtain ⟨k, rfl, hI⟩ := hrel
              obtain ⟨hkn, cur, hZ, hO, hM⟩ := hI.out
              clear hI
              by_cases hk : k < n
              · obtain ⟨k2, rfl⟩ : ∃ k2, gk = k2 + 1 := ⟨gk - 1, by omega⟩
                obtain ⟨r, hr, hrn, _⟩ := hM.row
                have how := hZ.own i _ r HV.out hr
                rw [hrn] at how
                obtain ⟨bb, cb, hbe, _, _⟩ := how.form (by omega)
                cases hbe
                have hcell := (hO.r.cellAt i (by have := HI.out; omega)).trans HV.out
                obtain ⟨x0, hx0⟩ : ∃ x0, (ints r)[k]? = some x0 := ⟨_, List.getElem?_eq_getElem (by rw [ints_length]; omega)⟩
                have hck := (how.cellAt k (by omega)).trans hx0
                have hfr := how.frozenAt k
                have hst := how.stored k (.int .i64 (-1000 - (i : Int)))
                have e1 : wrap64 (-1000 - (i : Int)) = -1000 - (i : Int) := by unfold wrap64; omega
                have k0 : (0 : Int) ≤ (k : Int) := by omega
                have k1' : (k : Int) < (n : Int) := by omega
                have hZ2 : Rz (wr.setCell ⟨bb, k, none⟩ (.int .i64 (-1000 - (i : Int)))) w6.heap.size VS (cur.set i (r.set k (-1000 - (i : Int)))) := by
                  have h1 := hZ.turn (r' := r.set k (-1000 - (i : Int))) HV.out hst.2 (by rw [List.length_set, hrn, ← ints_set]; exact hst.1) (.inl rfl)
                  rw [set_same HV.out] at h1
                  exact h1
                have hO2 := hO.other how (Nat.le_refl _) (by decide) hst.2
                have HZ2 := Lib.hid hZ2
                have HO2 := Lib.hid hO2
                have HM2 := Lib.hid (hM.set hr hk)
                have HKN := Lib.hid hkn
                clear hZ hO hM how hst hZ2 hO2 hkn hk hr hrn hx0
                go_wp2_with fail
                go_roundg k2
                case measure => have := HKN.out; omega
                case rel => exact ⟨k + 1, by go_num, Lib.hid ⟨by have := HKN.out; omega, _, HZ2.out, HO2.out, HM2.out⟩⟩
              · obtain rfl : k = n := by omega
                have hstop := hM.stop
                have HZ := Lib.hid hZ
                have HO := Lib.hid hO
                have HS := Lib.hid hstop
                clear hZ hO hM hstop hkn hk
                go_wp2_with fail
                go_roundg k1
                case measure => have := HIK.out; omega
                case rel => exact ⟨i + 1, by go_num, Lib.hid ⟨by have := HIK.out; omega, cur, HZ.out, HO.out, HS.out⟩⟩
          · obtain rfl : N = i := by omega
            have HZ := Lib.hid hZ
            have HT := Lib.hid (show Two w6 22 1 (.slice (some ⟨bl, 0, none⟩) N cl) N VS 22 1 (.slice none 0 0) 0 [] wr from ⟨hO.r, World.ownsRow_nil _ _ _ _, fun k _ h => by simp [Value.ownBlock] at h, hO.b⟩)
            obtain ⟨rows, hrw⟩ : ∃ rows, cur = rows := ⟨_, rfl⟩
            rw [hrw] at hM HZ
            have HM := Lib.hid hM
            have HVN := Lib.hid hVN
            have HVS : Hid (∀ (i : Nat) (v : Value) (r : List Int), VS[i]? = some v → rows[i]? = some r → ∃ A c, v = .slice A r.length c) := Lib.hid fun i v r h1 h2 => by
              obtain ⟨A, c, he, _⟩ := HZ.out.rd h1 h2
              exact ⟨A, c, he⟩
            clear hZ hO hM hik hi hrw hVN cur
            go_wp2_with fail
            go_loopg [15, 16, 17, 18, 153] N (fun kq v15 v16 v17 v18 v153 w' => ∃ i : Nat, v153 = .int .i64 (i : Int) ∧ Hid (i + kq = N ∧ ∃ gv, gv.length = i ∧ Rz w' w6.heap.size (gv ++ VS.drop i) (grows rows i ++ rows.drop i) ∧ Two w6 22 1 (.slice (some ⟨bl, 0, none⟩) N cl) N VS 22 1 v15 i gv w'))
            case atStart => exact ⟨0, rfl, Lib.hid ⟨by omega, [], rfl, HZ.out, HT.out⟩⟩
            case round =>
              clear HZ HT
              obtain ⟨i, rfl, hI⟩ := hrel
              obtain ⟨hik, gv, hgv, hZ, hT⟩ := hI.out
              clear hI
              by_cases hi : i < N
              · obtain ⟨k1, rfl⟩ : ∃ k1, gk = k1 + 1 := ⟨gk - 1, by omega⟩
                obtain ⟨v, hv⟩ : ∃ v, VS[i]? = some v := ⟨_, List.getElem?_eq_getElem (by have := HVN.out; omega)⟩
                obtain ⟨r, hr⟩ : ∃ r, rows[i]? = some r := ⟨_, List.getElem?_eq_getElem (by have := HM.out.len; omega)⟩
                have hr60 := HM.out.small r (List.mem_of_getElem? hr)
                have hcell := (hT.r1.cellAt i (by omega)).trans hv
                have hv2 : (gv ++ VS.drop i)[i]? = some v := (mid_at hgv).trans hv
                have hr2 : (grows rows i ++ rows.drop i)[i]? = some r := (mid_at (grows_length _ _)).trans hr
                have HZ := Lib.hid hZ
                have HT := Lib.hid hT
                have HR := Lib.hid hr
                have HV2 := Lib.hid hv2
                have HR2 := Lib.hid hr2
                have HIK := Lib.hid hik
                have HGV := Lib.hid hgv
                have HI := Lib.hid hi
                have j0 : (0 : Int) ≤ (i : Int) := by omega
                have j1 : (i : Int) < (N : Int) := by omega
                have j2 : (N : Int) ≤ 61 := by omega
                clear hZ hT hv hr hv2 hr2 hik hgv hi
                go_wp2_with fail
                go_loopg [17, 18] 20 (fun kq v17 v18 w' => ∃ k : Nat, v18 = .int .i64 (k : Int) ∧ Hid (k + kq = 20 ∧ Rz w' w6.heap.size ((gv ++ VS.drop i).set i v17) ((grows rows i ++ rows.drop i).set i (r ++ List.replicate k (1000 + (i : Int)))) ∧ Two w6 22 1 (.slice (some ⟨bl, 0, none⟩) N cl) N VS 22 1 u15 i gv w'))
                case atStart => exact ⟨0, rfl, Lib.hid ⟨by omega, by rw [set_same HV2.out, List.replicate_zero, List.append_nil, set_same HR2.out]; exact HZ.out, HT.out⟩⟩
                case round =>
                  clear HZ HT hcell
                  obtain ⟨k, rfl, hI⟩ := hrel
                  obtain ⟨hkn, hZ, hT⟩ := hI.out
                  clear hI
                  have hil : i < (gv ++ VS.drop i).length := (List.getElem?_eq_some_iff.1 HV2.out).1
                  have hirl : i < (grows rows i ++ rows.drop i).length := (List.getElem?_eq_some_iff.1 HR2.out).1
                  by_cases hk : k < 20
                  · obtain ⟨k2, rfl⟩ : ∃ k2, gk = k2 + 1 := ⟨gk - 1, by omega⟩
                    obtain ⟨g0, hg0⟩ : ∃ g0, r ++ List.replicate k (1000 + (i : Int)) = g0 := ⟨_, rfl⟩
                    have hg1 : r ++ List.replicate (k + 1) (1000 + (i : Int)) = g0 ++ [1000 + (i : Int)] := by rw [← hg0, List.append_assoc, List.replicate_succ']
                    have hgl : g0.length ≤ 80 := by rw [← hg0, List.length_append, List.length_replicate]; omega
                    rw [hg0] at hZ
                    have hHG : ((gv ++ VS.drop i).set i u17)[i]? = some u17 := List.getElem?_set_self hil
                    have hHR : ((grows rows i ++ rows.drop i).set i g0)[i]? = some g0 := List.getElem?_set_self hirl
                    have how := hZ.own i u17 g0 hHG hHR
                    have HOW := Lib.hid how
                    have HG := Lib.hid hHG
                    have HZ := Lib.hid hZ
                    have HT := Lib.hid hT
                    have HG1 := Lib.hid hg1
                    have HKN := Lib.hid hkn
                    have e1 : wrap64 (1000 + (i : Int)) = 1000 + (i : Int) := by unfold wrap64; omega
                    have k0 : (0 : Int) ≤ (k : Int) := by omega
                    have k1' : (k : Int) < 20 := by omega
                    clear how hHG hHR hZ hT hg1 hg0 hkn hk hil hirl
                    go_wp2_with ((at_builtin; (refine wpList_append_any rfl (.tmp 164) (.tmp 167) 22 rfl w6.heap.size 3 i1 (.int .i64 0) 1 8 Try.underlying22 hi1 hz1 hs1 hy1 rfl (by omega) _ _ _ rfl (HOW.out.alloc (.cells #[.int .i64 (1000 + (i : Int))] 3)) _ rfl 1 [.int .i64 (1000 + (i : Int))] (RdV.lit wr #[.int .i64 (1000 + (i : Int))] 3 1 1 1 rfl (by simp [Value.oneCell'])) (by unfold maxLen; omega) (by omega) (by have := HT.out.b.size; simp; omega) ?_; intro v17 w17 ho hg hn; have ho2 := own_next ho; have hzz := (HZ.out.below ((Below.refl _ _).alloc (Nat.le_refl _) (.cells #[.int .i64 (1000 + (i : Int))] 3))).turn (r' := g0 ++ [1000 + (i : Int)]) HG.out hg ho2 hn; have htt := (HT.out.below ((Below.refl _ _).alloc (Nat.le_refl _) (.cells #[.int .i64 (1000 + (i : Int))] 3))).other (HOW.out.alloc (.cells #[.int .i64 (1000 + (i : Int))] 3)) (Nat.le_refl _) (by decide) (by decide) hg; have HZ7 := Lib.hid hzz; have HT7 := Lib.hid htt; clear ho ho2 hg hn hzz htt HZ HT HOW)))
                    go_roundg k2
                    case measure => have := HKN.out; omega
                    case rel =>
                      refine ⟨k + 1, by go_num, Lib.hid ⟨by have := HKN.out; omega, ?_, HT7.out⟩⟩
                      rw [HG1.out]
                      have := HZ7.out
                      rw [List.set_set, List.set_set] at this
                      exact this
                  · have hk20 : k = 20 := by omega
                    subst hk20
                    obtain ⟨v17, hv17⟩ : ∃ v17, u17 = v17 := ⟨_, rfl⟩
                    rw [hv17] at hZ ⊢
                    rw [mid_set HGV.out (by have := HI.out; have := HVN.out; omega), mid_set (grows_length _ _) (by have := HI.out; have := HM.out.len; omega)] at hZ
                    have hgs : grows rows i ++ [r ++ List.replicate 20 (1000 + (i : Int))] = grows rows (i + 1) := by
                      rw [grows_succ, List.getD_eq_getElem?_getD, HR.out]; rfl
                    rw [hgs] at hZ
                    have hv3 : ((gv ++ [v17]) ++ VS.drop (i + 1))[i]? = some v17 := by
                      rw [List.append_assoc, List.getElem?_append_right (by rw [HGV.out]; exact Nat.le_refl _), HGV.out, Nat.sub_self]; rfl
                    obtain ⟨A17, c17, he, _⟩ := hZ.rd hv3 (by rw [List.getElem?_append_left (by rw [grows_length]; omega)]; exact grows_at rows (Nat.lt_succ_self i))
                    obtain ⟨n17, hn17⟩ : ∃ n, (rows.getD i [] ++ List.replicate 20 (1000 + (i : Int))).length = n := ⟨_, rfl⟩
                    rw [hn17] at he
                    subst he
                    have HZ := Lib.hid hZ
                    have HT := Lib.hid hT
                    clear hZ hT hgs hkn hk hil hirl hv17 hn17 hv3
                    go_wp2_with ((at_builtin; (refine wpList_append_any rfl (.tmp 169) (.tmp 171) 27 rfl w6.heap.size 22 i3 (.slice none 0 0) 1 24 Try.underlying27 hi3 hz3 hs3 hy3 rfl (by omega) _ _ _ rfl (HT.out.r2.alloc (.cells #[.slice A17 n17 c17] 22)) _ rfl 1 [.slice A17 n17 c17] (RdV.lit wr #[.slice A17 n17 c17] 22 1 1 1 rfl (by simp [Value.oneCell'])) (by unfold maxLen; omega) (by omega) (by have := HT.out.b.size; simp; omega) ?_; intro v15 w15 ho hg hn; have hzz := (HZ.out.below ((Below.refl _ _).alloc (Nat.le_refl _) (.cells #[.slice A17 n17 c17] 22))).other (HT.out.r2.alloc (.cells #[.slice A17 n17 c17] 22)) (by decide) hg; have htt := (HT.out.below ((Below.refl _ _).alloc (Nat.le_refl _) (.cells #[.slice A17 n17 c17] 22))).grow2 ho hg hn; have HZ8 := Lib.hid hzz; have HT8 := Lib.hid htt; clear ho hg hn hzz htt HZ HT)))
                    go_roundg k1
                    case measure => have := HIK.out; omega
                    case rel => exact ⟨i + 1, by go_num, Lib.hid ⟨by have := HIK.out; omega, gv ++ [.slice A17 n17 c17], by rw [List.length_append, HGV.out]; rfl, HZ8.out, HT8.out⟩⟩
              · obtain rfl : N = i := by omega
                rw [List.drop_of_length_le (by rw [HVN.out]; exact Nat.le_refl _), List.drop_of_length_le (by rw [HM.out.len]; exact Nat.le_refl _), List.append_nil, List.append_nil] at hZ
                obtain ⟨A15, c15, rfl⟩ := own_slice hT.r2
                obtain ⟨W, hW⟩ : ∃ W, wr = W := ⟨_, rfl⟩
                rw [hW] at hZ hT ⊢
                have HZ := Lib.hid hZ
                have HT := Lib.hid hT
                have HGV := Lib.hid hgv
                clear hZ hT hgv hik hi hW
                go_wp2_with fail
                go_loopg [19, 20, 176] N (fun kq v19 v20 v176 w' => ∃ i : Nat, v176 = .int .i64 (i : Int) ∧ Hid (i + kq = N ∧ w' = W))
                case atStart => exact ⟨0, rfl, Lib.hid ⟨by omega, rfl⟩⟩
                case round =>
                  obtain ⟨i, rfl, hI⟩ := hrel
                  obtain ⟨hik, hw⟩ := hI.out
                  subst hw
                  clear hI
                  by_cases hi : i < N
                  · obtain ⟨k1, rfl⟩ : ∃ k1, gk = k1 + 1 := ⟨gk - 1, by omega⟩
                    obtain ⟨v, hv⟩ : ∃ v, gv[i]? = some v := ⟨_, List.getElem?_eq_getElem (by have := HGV.out; omega)⟩
                    obtain ⟨r, hr⟩ : ∃ r, rows[i]? = some r := ⟨_, List.getElem?_eq_getElem (by have := HM.out.len; omega)⟩
                    obtain ⟨y, hy⟩ : ∃ y, VS[i]? = some y := ⟨_, List.getElem?_eq_getElem (by have := HVN.out; omega)⟩
                    obtain ⟨A12, c12, rfl⟩ := HVS.out i y r hy hr
                    obtain ⟨A16, c16, rfl, hrd⟩ := HZ.out.rd hv (grows_at rows hi)
                    have hgd : rows.getD i [] = r := by rw [List.getD_eq_getElem?_getD, hr]; rfl
                    rw [hgd] at hrd hv
                    obtain ⟨bg, cg, hbe, _, _⟩ := HT.out.r2.form (by omega)
                    cases hbe
                    have hcg := (HT.out.r2.cellAt i (by omega)).trans hv
                    have hcl := (HT.out.r1.cellAt i (by omega)).trans hy
                    obtain ⟨nr, hnr⟩ : ∃ n, r.length = n := ⟨_, rfl⟩
                    obtain ⟨cont, hcont⟩ : ∃ cont, r ++ List.replicate 20 (1000 + (i : Int)) = cont := ⟨_, rfl⟩
                    have hcn : cont.length = nr + 20 := by rw [← hcont, List.length_append, List.length_replicate, hnr]
                    rw [hcont] at hcg hrd
                    rw [hcn] at hcg
                    rw [hnr] at hcl
                    have hnr60 : nr ≤ 60 := by rw [← hnr]; exact HM.out.small r (List.mem_of_getElem? hr)
                    have hlow : ∀ k, k < nr → cont[k]? = some (-1000 - (i : Int)) := fun k hk => by
                      rw [← hcont, List.getElem?_append_left (by omega), List.getElem?_eq_getElem (by omega)]
                      exact congrArg some (HM.out.old i r hi hr _ (List.getElem_mem _))
                    have hhigh : ∀ k, nr ≤ k → k < nr + 20 → cont[k]? = some (1000 + (i : Int)) := fun k hk hk2 => by
                      rw [← hcont, List.getElem?_append_right (by omega), List.getElem?_replicate, if_pos (by omega)]
                    obtain ⟨ng, hng⟩ : ∃ n, nr + 20 = n := ⟨_, rfl⟩
                    rw [hng] at hcg hhigh
                    have HLO := Lib.hid hlow
                    have HHI := Lib.hid hhigh
                    have HRD := Lib.hid hrd
                    have HIK := Lib.hid hik
                    have HCL := Lib.hid hcl
                    have j0 : (0 : Int) ≤ (i : Int) := by omega
                    have j1 : (i : Int) < (N : Int) := by omega
                    have j2 : (N : Int) ≤ 61 := by omega
                    have j3 : (ng : Int) ≤ 80 := by omega
                    have e1 : ∀ x : Int, x = -1000 - (i : Int) → wrap64 x = x := fun x hx => by subst hx; unfold wrap64; omega
                    have e2 : ∀ x : Int, x = 1000 + (i : Int) → wrap64 x = x := fun x hx => by subst hx; unfold wrap64; omega
                    clear hlow hhigh hrd hik hcl hi hv hr hy hgd hnr hcont hcn hng
                    go_wp2_with fail
                    go_loopg [20, 184] ng (fun kq v20 v184 w' => ∃ k : Nat, v184 = .int .i64 (k : Int) ∧ Hid (k + kq = ng ∧ w' = wr))
                    case atStart => exact ⟨0, rfl, Lib.hid ⟨by omega, rfl⟩⟩
                    case round =>
                      obtain ⟨k, rfl, hI⟩ := hrel
                      obtain ⟨hkn, hw⟩ := hI.out
                      subst hw
                      clear hI
                      by_cases hk : k < ng
                      · obtain ⟨k2, rfl⟩ : ∃ k2, gk = k2 + 1 := ⟨gk - 1, by omega⟩
                        have k0 : (0 : Int) ≤ (k : Int) := by omega
                        have k1' : (k : Int) < (ng : Int) := by omega
                        have HKN := Lib.hid hkn
                        by_cases hkr : k < nr
                        · obtain ⟨b16, rfl, hx⟩ := HRD.out k _ (HLO.out k hkr)
                          have hcl := HCL.out
                          have k3 : (k : Int) < (nr : Int) := by omega
                          clear hkn hk hkr
                          go_wp2
                          go_roundg k2
                          case measure => have := HKN.out; omega
                          case rel => exact ⟨k + 1, by go_num, Lib.hid ⟨by have := HKN.out; omega, rfl⟩⟩
                        · obtain ⟨b16, rfl, hx⟩ := HRD.out k _ (HHI.out k (by omega) hk)
                          have hcl := HCL.out
                          have k3 : (nr : Int) ≤ (k : Int) := by omega
                          clear hkn hk hkr
                          go_wp2
                          go_roundg k2
                          case measure => have := HKN.out; omega
                          case rel => exact ⟨k + 1, by go_num, Lib.hid ⟨by have := HKN.out; omega, rfl⟩⟩
                      · obtain rfl : ng = k := by omega
                        clear hkn hk hcg
                        go_wp2
                        go_roundg k1
                        case measure => have := HIK.out; omega
                        case rel => exact ⟨i + 1, by go_num, Lib.hid ⟨by have := HIK.out; omega, rfl⟩⟩
                  · obtain rfl : N = i := by omega
                    clear hik hi
                    go_wp2
                    go_ret
                    exact ⟨rfl, HBW6.out.trans (HT.out.b.mono HBW6.out.size)⟩
      · have hls : ls = [] := Z1.out hc0
        have hts : ts = [] := Z2.out hc0
        subst hls hts
        have e0 : ((code : Int) == 0) = false := beq_eq_false_iff_ne.2 (by omega)
        have e1 : ((code : Int) != 0) = true := by rw [bne, e0]; rfl
        clear Z1 Z2 N1 N2 N3
        go_wp2
        go_ret
        have hb := HB29.out
        exact ⟨rfl, ⟨hb.os, hb.tape, hb.output, hb.size, hb.block⟩⟩

end Go.Proofs.Ythlmffjafeodlaa.Lw
