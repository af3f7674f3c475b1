/- The references' Acyclic, walked. -/
import Derived.Test.YtdohfjidnbhfnaaGh32
import Derived.Test.YtdohfjidnbhfnaaGh30
namespace Go.Proofs.Ytdohfjidnbhfnaa.Lw
open Go Go.RowKit Go.Proofs.Ytdohfjidnbhfnaa.Mem Go.Proofs.Ytdohfjidnbhfnaa.Sl Go.Proofs.Ytdohfjidnbhfnaa.Scc Go.Proofs.Ytdohfjidnbhfnaa.Tj Go.Proofs.YtdohfjidnbhfnaaW.PrintWords Go.Proofs.YtdohfjidnbhfnaaW.PrintLast
attribute [local go_sem ↓] Go.wp_at_zero Go.wp_at_succ
set_option linter.unusedSimpArgs false
set_option linter.unusedVariables false

def tb30_4.T4 : Bool × List (List Nat × List Nat) := (true, [([], []), ([0], [0]), ([], []), ([1, 2], [1, 2]), ([3], [3]), ([4], [4]), ([], []), ([6], [6]), ([], []), ([7, 8], [7, 8]), ([9], [9]), ([10], [10]), ([5, 11], [5, 11])])
def tb30_4.B4 : List Nat := [0, 1, 0, 7, 15, 31, 0, 64, 0, 448, 960, 1984, 4095]
theorem tb30_4.tab4 : rtab .any (opsOf Try.f30 4) = tb30_4.T4 := by kernel_rfl
theorem tb30_4.bits4 : waitsOk tb30_4.T4.2 tb30_4.B4 = true := by kernel_rfl
def tb30_6.T6 : Bool × List (List Nat × List Nat) := (true, [([], []), ([0], [0]), ([1], [1]), ([], []), ([3], [3]), ([4], [4]), ([2, 5], [2, 5]), ([6, 1, 0, 1, 2, 3, 4, 5, 6], [6])])
def tb30_6.B6 : List Nat := [0, 1, 3, 0, 8, 24, 63, 127]
theorem tb30_6.tab6 : rtab .any (opsOf Try.f30 6) = tb30_6.T6 := by kernel_rfl
theorem tb30_6.bits6 : waitsOk tb30_6.T6.2 tb30_6.B6 = true := by kernel_rfl
set_option maxHeartbeats 8000000 in
set_option maxRecDepth 100000 in
theorem acyR_calls (w : World) (A AE : Option Addr) (cg ce m : Nat) (sl : List Int) (R : List (Int × Int)) (comp : List Nat) (hv : RdI w A sl) (he : RdE w AE R) (hs : sl.Pairwise (· < ·)) (hgood : good sl R = true) (hco : CompOf sl.length (PE sl R) comp m) (hl : sl.length ≤ 1000) (hr : R.length ≤ 100000) :
    Calls Try.prog 30 #[gV A sl.length cg (.slice AE R.length ce)] w fun e w' => e = .returned (.bool (acyB R m sl.length)) ∧ Below w.heap.size w w' := by
  obtain ⟨n, hn⟩ : ∃ n, sl.length = n := ⟨_, rfl⟩
  have hof := fun (W : World) (hW : Below w.heap.size w W) => ofR_calls W A AE cg ce m sl R comp (hv.below hW) (he.below hW) hs hgood hco hl hr
  rw [hn] at hl hof ⊢
  obtain ⟨ans, hans⟩ : ∃ ans, acyB R m n = ans := ⟨_, rfl⟩
  rw [hans]
  unfold gV at hof ⊢
  have HE := Lib.hid he
  have HOFW := Lib.hid hof
  have HANS := Lib.hid hans
  clear hv he hs hgood hn hco hof hans
  go_enter Try.func30, Try.ntmps30
  go_wp2_with fail
  refine gen_loopw (fun W => At W w.heap.size [.slice A n cg, .slice AE R.length ce, .int .i64 0, .int .i64 0] 27 ∧ Below w.heap.size w W) ?_ ?_
  · exact ⟨At.made rfl rfl, (Below.refl _ _).alloc (Nat.le_refl _) _⟩
  obtain ⟨gx, hgx⟩ : ∃ gx, w.heap.size = gx := ⟨_, rfl⟩
  rw [hgx]
  rintro w3 ⟨hat, hb⟩
  rw [← hgx] at hb
  have HAT := Lib.hid hat
  have HB := Lib.hid hb
  clear hat hb hgx
  go_loopg [3] R.length (fun kq v3 w' => ∃ j : Nat, v3 = .int .i64 (j : Int) ∧ Hid (j + kq = R.length ∧ (∃ q, w' = w3.drewN q) ∧ (R.take j).all (fun p => decide (p.1 ≠ p.2)) = true))
  case atStart => exact ⟨0, rfl, Lib.hid ⟨by omega, ⟨0, rfl⟩, by simp⟩⟩
  case round =>
    obtain ⟨j, rfl, hI⟩ := hrel
    obtain ⟨hjk, ⟨q, rfl⟩, hall⟩ := hI.out
    clear hI
    have q1 : (w3.drewN q).cell? ⟨gx, 1, none⟩ = some (.slice AE R.length ce) := HAT.out.cell 1 rfl
    by_cases hj : j < R.length
    · obtain ⟨k1, rfl⟩ : ∃ k1, gk = k1 + 1 := ⟨gk - 1, by omega⟩
      obtain ⟨⟨u, v⟩, hxx⟩ : ∃ x, R[j] = x := ⟨_, rfl⟩
      have hx : R[j]? = some (u, v) := by rw [List.getElem?_eq_getElem hj, hxx]
      obtain ⟨be, rfl, qu', qv'⟩ := (HE.out.below HB.out) j u v hx
      have qu : (w3.drewN q).cell? ⟨be, j * 4 + 1, none⟩ = some (.int .i64 u) := qu'
      have qv : (w3.drewN q).cell? ⟨be, j * 4 + 2, none⟩ = some (.int .i64 v) := qv'
      have hsn : (R.take (j + 1)).all (fun p => decide (p.1 ≠ p.2)) = ((R.take j).all (fun p => decide (p.1 ≠ p.2)) && decide (u ≠ v)) := by rw [List.take_add_one, hx, List.all_append]; simp
      have j0 : (0 : Int) ≤ (j : Int) := by omega
      have j1 : (j : Int) < (R.length : Int) := by omega
      have j2 : (R.length : Int) ≤ 100000 := by omega
      by_cases huv : u = v
      · subst huv
        have HA := Lib.hid (show ans = false by
          rw [← HANS.out, acyB, if_neg]
          intro h
          have := List.all_eq_true.1 h _ (List.mem_of_getElem? hx)
          simp at this)
        have hb := HB.out
        have HBX := Lib.hid hb
        clear hsn hx hxx hall hjk qu' qv' hj hb
        go_upto_region 4 with (fail)
        refine start_ (n := 13) (S := fun w' => w'.cell? ⟨gx, 1, none⟩ = some (.slice (some ⟨be, 0, none⟩) R.length ce) ∧ w'.cell? ⟨be, j * 4 + 1, none⟩ = some (.int .i64 u) ∧ w'.cell? ⟨be, j * 4 + 2, none⟩ = some (.int .i64 u)) (ds := []) #[false, false, false, false, false, false, false, false, false, false, false, false, false] (by kernel_rfl) rfl rfl ⟨q1, qu, qv⟩ (fun hHeld => ?_)
        refine with_tabW tb30_4.tab4 tb30_4.bits4 (fun HT_ HW_ => ?_)
        refine pure_ (i := 0) (N := some 11) (v := ?_) (a' := ?_) #[true, false, false, false, false, false, false, false, false, false, false, false, false] rfl rfl (any_of HT_.out (by kernel_rfl)) (fun _ _ _ h => h) (Or.inl ⟨by rfl, ?_⟩) ?_ ?_
        rotate_left; · intro w'; go_simp; with_reducible rfl
        rotate_left; · simp only [Act.put, List.setIfInBounds_toArray, List.set_cons_zero, List.set_cons_succ, i64_w, i32_w]; rfl
        refine pure_ (i := 2) (N := some 13) (v := ?_) (a' := ?_) #[true, false, true, false, false, false, false, false, false, false, false, false, false] rfl rfl (any_of HT_.out (by kernel_rfl)) (fun _ _ _ h => h) (Or.inl ⟨by rfl, ?_⟩) ?_ ?_
        rotate_left; · intro w'; go_simp; with_reducible rfl
        rotate_left; · simp only [Act.put, List.setIfInBounds_toArray, List.set_cons_zero, List.set_cons_succ, i64_w, i32_w]; rfl
        refine pure_ (i := 6) (N := some 17) (v := ?_) (a' := ?_) #[true, false, true, false, false, false, true, false, false, false, false, false, false] rfl rfl (any_of HT_.out (by kernel_rfl)) (fun _ _ _ h => h) (Or.inl ⟨by rfl, ?_⟩) ?_ ?_
        rotate_left; · intro w'; go_simp; with_reducible rfl
        rotate_left; · simp only [Act.put, List.setIfInBounds_toArray, List.set_cons_zero, List.set_cons_succ, i64_w, i32_w]; rfl
        refine pure_ (i := 8) (N := some 19) (v := ?_) (a' := ?_) #[true, false, true, false, false, false, true, false, true, false, false, false, false] rfl rfl (any_of HT_.out (by kernel_rfl)) (fun _ _ _ h => h) (Or.inl ⟨by rfl, ?_⟩) ?_ ?_
        rotate_left; · intro w'; go_simp; with_reducible rfl
        rotate_left; · simp only [Act.put, List.setIfInBounds_toArray, List.set_cons_zero, List.set_cons_succ, i64_w, i32_w]; rfl
        refine take_ (i := 1) (N := some 12) (v := ?_) (a' := ?_) #[true, true, true, false, false, false, true, false, true, false, false, false, false] rfl rfl (take_ofW HT_.out HW_.out (by kernel_rfl)) (fun _ _ _ h => h) (Or.inl ⟨by rfl, ?_⟩) hHeld ?_ ?_
        rotate_left
        · rintro w' ⟨s0, s1, s2⟩
          go_simp; with_reducible rfl
        rotate_left; · simp only [Act.put, List.setIfInBounds_toArray, List.set_cons_zero, List.set_cons_succ, i64_w, i32_w]; rfl
        refine pure_ (i := 3) (N := some 14) (v := ?_) (a' := ?_) #[true, true, true, true, false, false, true, false, true, false, false, false, false] rfl rfl (any_of HT_.out (by kernel_rfl)) (fun _ _ _ h => h) (Or.inl ⟨by rfl, ?_⟩) ?_ ?_
        rotate_left; · intro w'; go_simp; with_reducible rfl
        rotate_left; · simp only [Act.put, List.setIfInBounds_toArray, List.set_cons_zero, List.set_cons_succ, i64_w, i32_w]; rfl
        refine pure_ (i := 4) (N := some 15) (v := ?_) (a' := ?_) #[true, true, true, true, true, false, true, false, true, false, false, false, false] rfl rfl (any_of HT_.out (by kernel_rfl)) (fun _ _ _ h => h) (Or.inl ⟨by rfl, ?_⟩) ?_ ?_
        rotate_left; · intro w'; go_simp; with_reducible rfl
        rotate_left; · simp only [Act.put, List.setIfInBounds_toArray, List.set_cons_zero, List.set_cons_succ, i64_w, i32_w]; rfl
        refine take_ (i := 5) (N := some 16) (v := ?_) (a' := ?_) #[true, true, true, true, true, true, true, false, true, false, false, false, false] rfl rfl (take_ofW HT_.out HW_.out (by kernel_rfl)) (fun _ _ _ h => h) (Or.inl ⟨by rfl, ?_⟩) hHeld ?_ ?_
        rotate_left
        · rintro w' ⟨s0, s1, s2⟩
          go_simp; with_reducible rfl
        rotate_left; · simp only [Act.put, List.setIfInBounds_toArray, List.set_cons_zero, List.set_cons_succ, i64_w, i32_w]; rfl
        refine take_ (i := 7) (N := some 18) (v := ?_) (a' := ?_) #[true, true, true, true, true, true, true, true, true, false, false, false, false] rfl rfl (take_ofW HT_.out HW_.out (by kernel_rfl)) (fun _ _ _ h => h) (Or.inl ⟨by rfl, ?_⟩) hHeld ?_ ?_
        rotate_left
        · rintro w' ⟨s0, s1, s2⟩
          go_simp; with_reducible rfl
        rotate_left; · simp only [Act.put, List.setIfInBounds_toArray, List.set_cons_zero, List.set_cons_succ, i64_w, i32_w]; rfl
        refine pure_ (i := 9) (N := some 20) (v := ?_) (a' := ?_) #[true, true, true, true, true, true, true, true, true, true, false, false, false] rfl rfl (any_of HT_.out (by kernel_rfl)) (fun _ _ _ h => h) (Or.inl ⟨by rfl, ?_⟩) ?_ ?_
        rotate_left; · intro w'; go_simp; with_reducible rfl
        rotate_left; · simp only [Act.put, List.setIfInBounds_toArray, List.set_cons_zero, List.set_cons_succ, i64_w, i32_w]; rfl
        refine pure_ (i := 10) (N := some 21) (v := ?_) (a' := ?_) #[true, true, true, true, true, true, true, true, true, true, true, false, false] rfl rfl (any_of HT_.out (by kernel_rfl)) (fun _ _ _ h => h) (Or.inl ⟨by rfl, ?_⟩) ?_ ?_
        rotate_left; · intro w'; go_simp; with_reducible rfl
        rotate_left; · simp only [Act.put, List.setIfInBounds_toArray, List.set_cons_zero, List.set_cons_succ, i64_w, i32_w]; rfl
        refine take_ (i := 11) (N := some 22) (v := ?_) (a' := ?_) #[true, true, true, true, true, true, true, true, true, true, true, true, false] rfl rfl (take_ofW HT_.out HW_.out (by kernel_rfl)) (fun _ _ _ h => h) (Or.inl ⟨by rfl, ?_⟩) hHeld ?_ ?_
        rotate_left
        · rintro w' ⟨s0, s1, s2⟩
          go_simp; with_reducible rfl
        rotate_left; · simp only [Act.put, List.setIfInBounds_toArray, List.set_cons_zero, List.set_cons_succ, i64_w, i32_w]; rfl
        refine pure_ (i := 12) (N := some 23) (v := ?_) (a' := ?_) #[true, true, true, true, true, true, true, true, true, true, true, true, true] rfl rfl (any_of HT_.out (by kernel_rfl)) (fun _ _ _ h => h) (Or.inl ⟨by rfl, ?_⟩) ?_ ?_
        rotate_left; · intro w'; go_simp; with_reducible rfl
        rotate_left; · simp only [Act.put, List.setIfInBounds_toArray, List.set_cons_zero, List.set_cons_succ, i64_w, i32_w]; rfl
        refine done_ (done_of HT_.out (by kernel_rfl)) ?_
        clear hHeld HT_ HW_
        go_wp2
        go_ret
        have hb := HBX.out
        exact ⟨by rw [HA.out]; rfl, ⟨hb.os, hb.tape, hb.output, hb.size, hb.block⟩⟩
      · have e1 : (u == v) = false := beq_eq_false_iff_ne.2 huv
        have HSN := Lib.hid (show (R.take (j + 1)).all (fun p => decide (p.1 ≠ p.2)) = true by rw [hsn, hall]; simpa using huv)
        have HJK := Lib.hid hjk
        clear hsn hx hxx hall hjk qu' qv' hj huv
        go_upto_region 4 with (fail)
        refine start_ (n := 13) (S := fun w' => w'.cell? ⟨gx, 1, none⟩ = some (.slice (some ⟨be, 0, none⟩) R.length ce) ∧ w'.cell? ⟨be, j * 4 + 1, none⟩ = some (.int .i64 u) ∧ w'.cell? ⟨be, j * 4 + 2, none⟩ = some (.int .i64 v)) (ds := []) #[false, false, false, false, false, false, false, false, false, false, false, false, false] (by kernel_rfl) rfl rfl ⟨q1, qu, qv⟩ (fun hHeld => ?_)
        refine with_tabW tb30_4.tab4 tb30_4.bits4 (fun HT_ HW_ => ?_)
        refine pure_ (i := 0) (N := some 11) (v := ?_) (a' := ?_) #[true, false, false, false, false, false, false, false, false, false, false, false, false] rfl rfl (any_of HT_.out (by kernel_rfl)) (fun _ _ _ h => h) (Or.inl ⟨by rfl, ?_⟩) ?_ ?_
        rotate_left; · intro w'; go_simp; with_reducible rfl
        rotate_left; · simp only [Act.put, List.setIfInBounds_toArray, List.set_cons_zero, List.set_cons_succ, i64_w, i32_w]; rfl
        refine pure_ (i := 2) (N := some 13) (v := ?_) (a' := ?_) #[true, false, true, false, false, false, false, false, false, false, false, false, false] rfl rfl (any_of HT_.out (by kernel_rfl)) (fun _ _ _ h => h) (Or.inl ⟨by rfl, ?_⟩) ?_ ?_
        rotate_left; · intro w'; go_simp; with_reducible rfl
        rotate_left; · simp only [Act.put, List.setIfInBounds_toArray, List.set_cons_zero, List.set_cons_succ, i64_w, i32_w]; rfl
        refine pure_ (i := 6) (N := some 17) (v := ?_) (a' := ?_) #[true, false, true, false, false, false, true, false, false, false, false, false, false] rfl rfl (any_of HT_.out (by kernel_rfl)) (fun _ _ _ h => h) (Or.inl ⟨by rfl, ?_⟩) ?_ ?_
        rotate_left; · intro w'; go_simp; with_reducible rfl
        rotate_left; · simp only [Act.put, List.setIfInBounds_toArray, List.set_cons_zero, List.set_cons_succ, i64_w, i32_w]; rfl
        refine pure_ (i := 8) (N := some 19) (v := ?_) (a' := ?_) #[true, false, true, false, false, false, true, false, true, false, false, false, false] rfl rfl (any_of HT_.out (by kernel_rfl)) (fun _ _ _ h => h) (Or.inl ⟨by rfl, ?_⟩) ?_ ?_
        rotate_left; · intro w'; go_simp; with_reducible rfl
        rotate_left; · simp only [Act.put, List.setIfInBounds_toArray, List.set_cons_zero, List.set_cons_succ, i64_w, i32_w]; rfl
        refine take_ (i := 1) (N := some 12) (v := ?_) (a' := ?_) #[true, true, true, false, false, false, true, false, true, false, false, false, false] rfl rfl (take_ofW HT_.out HW_.out (by kernel_rfl)) (fun _ _ _ h => h) (Or.inl ⟨by rfl, ?_⟩) hHeld ?_ ?_
        rotate_left
        · rintro w' ⟨s0, s1, s2⟩
          go_simp; with_reducible rfl
        rotate_left; · simp only [Act.put, List.setIfInBounds_toArray, List.set_cons_zero, List.set_cons_succ, i64_w, i32_w]; rfl
        refine pure_ (i := 3) (N := some 14) (v := ?_) (a' := ?_) #[true, true, true, true, false, false, true, false, true, false, false, false, false] rfl rfl (any_of HT_.out (by kernel_rfl)) (fun _ _ _ h => h) (Or.inl ⟨by rfl, ?_⟩) ?_ ?_
        rotate_left; · intro w'; go_simp; with_reducible rfl
        rotate_left; · simp only [Act.put, List.setIfInBounds_toArray, List.set_cons_zero, List.set_cons_succ, i64_w, i32_w]; rfl
        refine pure_ (i := 4) (N := some 15) (v := ?_) (a' := ?_) #[true, true, true, true, true, false, true, false, true, false, false, false, false] rfl rfl (any_of HT_.out (by kernel_rfl)) (fun _ _ _ h => h) (Or.inl ⟨by rfl, ?_⟩) ?_ ?_
        rotate_left; · intro w'; go_simp; with_reducible rfl
        rotate_left; · simp only [Act.put, List.setIfInBounds_toArray, List.set_cons_zero, List.set_cons_succ, i64_w, i32_w]; rfl
        refine take_ (i := 5) (N := some 16) (v := ?_) (a' := ?_) #[true, true, true, true, true, true, true, false, true, false, false, false, false] rfl rfl (take_ofW HT_.out HW_.out (by kernel_rfl)) (fun _ _ _ h => h) (Or.inl ⟨by rfl, ?_⟩) hHeld ?_ ?_
        rotate_left
        · rintro w' ⟨s0, s1, s2⟩
          go_simp; with_reducible rfl
        rotate_left; · simp only [Act.put, List.setIfInBounds_toArray, List.set_cons_zero, List.set_cons_succ, i64_w, i32_w]; rfl
        refine take_ (i := 7) (N := some 18) (v := ?_) (a' := ?_) #[true, true, true, true, true, true, true, true, true, false, false, false, false] rfl rfl (take_ofW HT_.out HW_.out (by kernel_rfl)) (fun _ _ _ h => h) (Or.inl ⟨by rfl, ?_⟩) hHeld ?_ ?_
        rotate_left
        · rintro w' ⟨s0, s1, s2⟩
          go_simp; with_reducible rfl
        rotate_left; · simp only [Act.put, List.setIfInBounds_toArray, List.set_cons_zero, List.set_cons_succ, i64_w, i32_w]; rfl
        refine pure_ (i := 9) (N := some 20) (v := ?_) (a' := ?_) #[true, true, true, true, true, true, true, true, true, true, false, false, false] rfl rfl (any_of HT_.out (by kernel_rfl)) (fun _ _ _ h => h) (Or.inl ⟨by rfl, ?_⟩) ?_ ?_
        rotate_left; · intro w'; go_simp; with_reducible rfl
        rotate_left; · simp only [Act.put, List.setIfInBounds_toArray, List.set_cons_zero, List.set_cons_succ, i64_w, i32_w]; rfl
        refine pure_ (i := 10) (N := some 21) (v := ?_) (a' := ?_) #[true, true, true, true, true, true, true, true, true, true, true, false, false] rfl rfl (any_of HT_.out (by kernel_rfl)) (fun _ _ _ h => h) (Or.inl ⟨by rfl, ?_⟩) ?_ ?_
        rotate_left; · intro w'; go_simp; with_reducible rfl
        rotate_left; · simp only [Act.put, List.setIfInBounds_toArray, List.set_cons_zero, List.set_cons_succ, i64_w, i32_w]; rfl
        refine take_ (i := 11) (N := some 22) (v := ?_) (a' := ?_) #[true, true, true, true, true, true, true, true, true, true, true, true, false] rfl rfl (take_ofW HT_.out HW_.out (by kernel_rfl)) (fun _ _ _ h => h) (Or.inl ⟨by rfl, ?_⟩) hHeld ?_ ?_
        rotate_left
        · rintro w' ⟨s0, s1, s2⟩
          go_simp; with_reducible rfl
        rotate_left; · simp only [Act.put, List.setIfInBounds_toArray, List.set_cons_zero, List.set_cons_succ, i64_w, i32_w]; rfl
        refine pure_ (i := 12) (N := some 23) (v := ?_) (a' := ?_) #[true, true, true, true, true, true, true, true, true, true, true, true, true] rfl rfl (any_of HT_.out (by kernel_rfl)) (fun _ _ _ h => h) (Or.inl ⟨by rfl, ?_⟩) ?_ ?_
        rotate_left; · intro w'; go_simp; with_reducible rfl
        rotate_left; · simp only [Act.put, List.setIfInBounds_toArray, List.set_cons_zero, List.set_cons_succ, i64_w, i32_w]; rfl
        refine done_ (done_of HT_.out (by kernel_rfl)) ?_
        clear hHeld HT_ HW_; clear q1 qu qv
        go_wp2
        go_roundg k1
        case measure => have := HJK.out; omega
        case rel => exact ⟨j + 1, by go_num, Lib.hid ⟨by have := HJK.out; omega, ⟨q + 1, rfl⟩, HSN.out⟩⟩
    · obtain rfl : j = R.length := by omega
      rw [List.take_length] at hall
      have HA := Lib.hid (show ans = decide (m = n) by rw [← HANS.out, acyB, if_pos hall])
      have hbd : Below w.heap.size w (w3.drewN q).drew := ⟨HB.out.os, HB.out.tape, HB.out.output, HB.out.size, HB.out.block⟩
      have HOF := Lib.hid (HOFW.out _ hbd)
      have q0 : (w3.drewN q).cell? ⟨gx, 0, none⟩ = some (.slice A n cg) := HAT.out.cell 0 rfl
      have q2 : (w3.drewN q).cell? ⟨gx, 2, none⟩ = some (.int .i64 0) := HAT.out.cell 2 rfl
      have q3 : (w3.drewN q).cell? ⟨gx, 3, none⟩ = some (.int .i64 0) := HAT.out.cell 3 rfl
      have HBD := Lib.hid hbd
      obtain ⟨wr, hwr⟩ : ∃ wr, w3.drewN q = wr := ⟨_, rfl⟩
      rw [hwr] at q0 q1 q2 q3 HOF HBD ⊢
      clear hall hjk hj hbd hwr HOFW
      by_cases hmn : m = n
      · have e1 : ((m : Int) == (n : Int)) = true := by rw [hmn]; simp
        go_upto_region 6 with (fail)
        refine start_ (n := 8) (S := fun w' => w'.cell? ⟨gx, 0, none⟩ = some (.slice A n cg) ∧ w'.cell? ⟨gx, 1, none⟩ = some (.slice AE R.length ce) ∧ w'.cell? ⟨gx, 2, none⟩ = some (.int .i64 0) ∧ w'.cell? ⟨gx, 3, none⟩ = some (.int .i64 0)) (ds := []) #[false, false, false, false, false, false, false, false] (by kernel_rfl) rfl rfl ⟨q0, q1, q2, q3⟩ (fun hHeld => ?_)
        refine with_tabW tb30_6.tab6 tb30_6.bits6 (fun HT_ HW_ => ?_)
        refine pure_ (i := 3) (N := some 27) (v := ?_) (a' := ?_) #[false, false, false, true, false, false, false, false] rfl rfl (any_of HT_.out (by kernel_rfl)) (fun _ _ _ h => h) (Or.inl ⟨by rfl, ?_⟩) ?_ ?_
        rotate_left; · intro w'; go_simp; with_reducible rfl
        rotate_left; · simp only [Act.put, List.setIfInBounds_toArray, List.set_cons_zero, List.set_cons_succ, i64_w, i32_w]; rfl
        refine take_ (i := 0) (N := some 24) (v := ?_) (a' := ?_) #[true, false, false, true, false, false, false, false] rfl rfl (take_ofW HT_.out HW_.out (by kernel_rfl)) (fun _ _ _ h => h) (Or.inl ⟨by rfl, ?_⟩) hHeld ?_ ?_
        rotate_left
        · rintro w' ⟨s0, s1, s2, s3⟩
          go_simp; with_reducible rfl
        rotate_left; · simp only [Act.put, List.setIfInBounds_toArray, List.set_cons_zero, List.set_cons_succ, i64_w, i32_w]; rfl
        refine take_ (i := 4) (N := some 28) (v := ?_) (a' := ?_) #[true, false, false, true, true, false, false, false] rfl rfl (take_ofW HT_.out HW_.out (by kernel_rfl)) (fun _ _ _ h => h) (Or.inl ⟨by rfl, ?_⟩) hHeld ?_ ?_
        rotate_left
        · rintro w' ⟨s0, s1, s2, s3⟩
          go_simp; with_reducible rfl
        rotate_left; · simp only [Act.put, List.setIfInBounds_toArray, List.set_cons_zero, List.set_cons_succ, i64_w, i32_w]; rfl
        refine pure_ (i := 5) (N := some 29) (v := ?_) (a' := ?_) #[true, false, false, true, true, true, false, false] rfl rfl (any_of HT_.out (by kernel_rfl)) (fun _ _ _ h => h) (Or.inl ⟨by rfl, ?_⟩) ?_ ?_
        rotate_left; · intro w'; go_simp; with_reducible rfl
        rotate_left; · simp only [Act.put, List.setIfInBounds_toArray, List.set_cons_zero, List.set_cons_succ, i64_w, i32_w]; rfl
        refine one_ (i := 1) (N := some 25) #[true, true, false, true, true, true, false, false] rfl rfl (one_of HT_.out (by kernel_rfl)) (by decide) (fun K hK => ?_)
        refine goes_ Try.func49 (by kernel_rfl) rfl #[.agg #[.slice A n cg, .slice AE R.length ce, .int .i64 0, .int .i64 0]] (by rfl) rfl rfl (by simp only [List.map_toArray, List.map_cons, List.map_nil]; rfl) ?_
        with_reducible refine (HOF.out).mono ?_
        rintro e wa ⟨A9, c9, rfl, _, hba⟩
        refine ⟨_, rfl, ?_⟩
        have hbw : Below wr.heap.size wr wa := ⟨hba.os, hba.tape, hba.output, hba.size, hba.block⟩
        refine hK.out _ _ ⟨(keep_at hbw q0), (keep_at hbw q1), (keep_at hbw q2), (keep_at hbw q3)⟩ (fun hHeld => ?_)
        clear hK K
        refine norm_ (a' := ?_) ?_ ?_
        rotate_left
        · show Act.put _ (some 25) _ = _
          simp only [Act.put, List.setIfInBounds_toArray, List.set_cons_zero, List.set_cons_succ, i64_w, i32_w]; rfl
        refine pure_ (i := 2) (N := some 26) (v := ?_) (a' := ?_) #[true, true, true, true, true, true, false, false] rfl rfl (any_of HT_.out (by kernel_rfl)) (fun _ _ _ h => h) (Or.inl ⟨by rfl, ?_⟩) ?_ ?_
        rotate_left; · intro w'; go_simp; with_reducible rfl
        rotate_left; · simp only [Act.put, List.setIfInBounds_toArray, List.set_cons_zero, List.set_cons_succ, i64_w, i32_w]; rfl
        refine pure_ (i := 6) (N := some 30) (v := ?_) (a' := ?_) #[true, true, true, true, true, true, true, false] rfl rfl (any_of HT_.out (by kernel_rfl)) (fun _ _ _ h => h) (Or.inl ⟨by rfl, ?_⟩) ?_ ?_
        rotate_left; · intro w'; go_simp; with_reducible rfl
        rotate_left; · simp only [Act.put, List.setIfInBounds_toArray, List.set_cons_zero, List.set_cons_succ, i64_w, i32_w]; rfl
        refine pure_ (i := 7) (N := some 2) (v := ?_) (a' := ?_) #[true, true, true, true, true, true, true, true] rfl rfl (any_of HT_.out (by kernel_rfl)) (fun _ _ _ h => h) (Or.inl ⟨by rfl, ?_⟩) ?_ ?_
        rotate_left; · intro w'; go_simp; with_reducible rfl
        rotate_left; · simp only [Act.put, List.setIfInBounds_toArray, List.set_cons_zero, List.set_cons_succ, i64_w, i32_w]; rfl
        refine done_ (done_of HT_.out (by kernel_rfl)) ?_
        clear hHeld HT_ HW_
        go_wp2
        go_ret
        exact ⟨by rw [HA.out, decide_eq_true hmn]; rfl, HBD.out.trans (hba.mono HBD.out.size)⟩
      · have e1 : ((m : Int) == (n : Int)) = false := beq_eq_false_iff_ne.2 (by omega)
        go_upto_region 6 with (fail)
        refine start_ (n := 8) (S := fun w' => w'.cell? ⟨gx, 0, none⟩ = some (.slice A n cg) ∧ w'.cell? ⟨gx, 1, none⟩ = some (.slice AE R.length ce) ∧ w'.cell? ⟨gx, 2, none⟩ = some (.int .i64 0) ∧ w'.cell? ⟨gx, 3, none⟩ = some (.int .i64 0)) (ds := []) #[false, false, false, false, false, false, false, false] (by kernel_rfl) rfl rfl ⟨q0, q1, q2, q3⟩ (fun hHeld => ?_)
        refine with_tabW tb30_6.tab6 tb30_6.bits6 (fun HT_ HW_ => ?_)
        refine pure_ (i := 3) (N := some 27) (v := ?_) (a' := ?_) #[false, false, false, true, false, false, false, false] rfl rfl (any_of HT_.out (by kernel_rfl)) (fun _ _ _ h => h) (Or.inl ⟨by rfl, ?_⟩) ?_ ?_
        rotate_left; · intro w'; go_simp; with_reducible rfl
        rotate_left; · simp only [Act.put, List.setIfInBounds_toArray, List.set_cons_zero, List.set_cons_succ, i64_w, i32_w]; rfl
        refine take_ (i := 0) (N := some 24) (v := ?_) (a' := ?_) #[true, false, false, true, false, false, false, false] rfl rfl (take_ofW HT_.out HW_.out (by kernel_rfl)) (fun _ _ _ h => h) (Or.inl ⟨by rfl, ?_⟩) hHeld ?_ ?_
        rotate_left
        · rintro w' ⟨s0, s1, s2, s3⟩
          go_simp; with_reducible rfl
        rotate_left; · simp only [Act.put, List.setIfInBounds_toArray, List.set_cons_zero, List.set_cons_succ, i64_w, i32_w]; rfl
        refine take_ (i := 4) (N := some 28) (v := ?_) (a' := ?_) #[true, false, false, true, true, false, false, false] rfl rfl (take_ofW HT_.out HW_.out (by kernel_rfl)) (fun _ _ _ h => h) (Or.inl ⟨by rfl, ?_⟩) hHeld ?_ ?_
        rotate_left
        · rintro w' ⟨s0, s1, s2, s3⟩
          go_simp; with_reducible rfl
        rotate_left; · simp only [Act.put, List.setIfInBounds_toArray, List.set_cons_zero, List.set_cons_succ, i64_w, i32_w]; rfl
        refine pure_ (i := 5) (N := some 29) (v := ?_) (a' := ?_) #[true, false, false, true, true, true, false, false] rfl rfl (any_of HT_.out (by kernel_rfl)) (fun _ _ _ h => h) (Or.inl ⟨by rfl, ?_⟩) ?_ ?_
        rotate_left; · intro w'; go_simp; with_reducible rfl
        rotate_left; · simp only [Act.put, List.setIfInBounds_toArray, List.set_cons_zero, List.set_cons_succ, i64_w, i32_w]; rfl
        refine one_ (i := 1) (N := some 25) #[true, true, false, true, true, true, false, false] rfl rfl (one_of HT_.out (by kernel_rfl)) (by decide) (fun K hK => ?_)
        refine goes_ Try.func49 (by kernel_rfl) rfl #[.agg #[.slice A n cg, .slice AE R.length ce, .int .i64 0, .int .i64 0]] (by rfl) rfl rfl (by simp only [List.map_toArray, List.map_cons, List.map_nil]; rfl) ?_
        with_reducible refine (HOF.out).mono ?_
        rintro e wa ⟨A9, c9, rfl, _, hba⟩
        refine ⟨_, rfl, ?_⟩
        have hbw : Below wr.heap.size wr wa := ⟨hba.os, hba.tape, hba.output, hba.size, hba.block⟩
        refine hK.out _ _ ⟨(keep_at hbw q0), (keep_at hbw q1), (keep_at hbw q2), (keep_at hbw q3)⟩ (fun hHeld => ?_)
        clear hK K
        refine norm_ (a' := ?_) ?_ ?_
        rotate_left
        · show Act.put _ (some 25) _ = _
          simp only [Act.put, List.setIfInBounds_toArray, List.set_cons_zero, List.set_cons_succ, i64_w, i32_w]; rfl
        refine pure_ (i := 2) (N := some 26) (v := ?_) (a' := ?_) #[true, true, true, true, true, true, false, false] rfl rfl (any_of HT_.out (by kernel_rfl)) (fun _ _ _ h => h) (Or.inl ⟨by rfl, ?_⟩) ?_ ?_
        rotate_left; · intro w'; go_simp; with_reducible rfl
        rotate_left; · simp only [Act.put, List.setIfInBounds_toArray, List.set_cons_zero, List.set_cons_succ, i64_w, i32_w]; rfl
        refine pure_ (i := 6) (N := some 30) (v := ?_) (a' := ?_) #[true, true, true, true, true, true, true, false] rfl rfl (any_of HT_.out (by kernel_rfl)) (fun _ _ _ h => h) (Or.inl ⟨by rfl, ?_⟩) ?_ ?_
        rotate_left; · intro w'; go_simp; with_reducible rfl
        rotate_left; · simp only [Act.put, List.setIfInBounds_toArray, List.set_cons_zero, List.set_cons_succ, i64_w, i32_w]; rfl
        refine pure_ (i := 7) (N := some 2) (v := ?_) (a' := ?_) #[true, true, true, true, true, true, true, true] rfl rfl (any_of HT_.out (by kernel_rfl)) (fun _ _ _ h => h) (Or.inl ⟨by rfl, ?_⟩) ?_ ?_
        rotate_left; · intro w'; go_simp; with_reducible rfl
        rotate_left; · simp only [Act.put, List.setIfInBounds_toArray, List.set_cons_zero, List.set_cons_succ, i64_w, i32_w]; rfl
        refine done_ (done_of HT_.out (by kernel_rfl)) ?_
        clear hHeld HT_ HW_
        go_wp2
        go_ret
        exact ⟨by rw [HA.out, decide_eq_false hmn]; rfl, HBD.out.trans (hba.mono HBD.out.size)⟩

end Go.Proofs.Ytdohfjidnbhfnaa.Lw

/- brambleref11: leads, below. -/
namespace Go.Proofs.Ytdohfjidnbhfnaa.Rb
open Go Go.RowKit Go.Proofs.Ytdohfjidnbhfnaa.Mem Go.Proofs.Ytdohfjidnbhfnaa.Sl Go.Proofs.Ytdohfjidnbhfnaa.Scc Go.Proofs.Ytdohfjidnbhfnaa.Tj Go.Proofs.Ytdohfjidnbhfnaa.Lw Go.Proofs.Ytdohfjidnbhfnaa.Cv Go.Proofs.YtdohfjidnbhfnaaW.PrintWords Go.Proofs.YtdohfjidnbhfnaaW.PrintLast
attribute [local go_sem ↓] Go.wp_at_zero Go.wp_at_succ
set_option linter.unusedSimpArgs false
set_option linter.unusedVariables false

def nums (l : List Nat) : List Int := l.map fun i : Nat => (i : Int)
theorem nums_append (a b : List Nat) : nums (a ++ b) = nums a ++ nums b := by simp [nums]
theorem ints_append (a b : List Int) : ints (a ++ b) = ints a ++ ints b := by simp [ints]
theorem nums_at {l : List Nat} {i x : Nat} (h : l[i]? = some x) : (nums l)[i]? = some (x : Int) := by rw [nums, List.getElem?_map, h]; rfl
theorem mem_int {l : List Int} {u : Value} (h : u ∈ ints l) : u.oneCell' = true := by
  obtain ⟨x, _, rfl⟩ := List.mem_map.1 h
  rfl

def cV (A : Option Addr) (n c : Nat) (AE : Option Addr) (m ce : Nat) (AP : Option Addr) (np cp : Nat) (AQ : Option Addr) (nq cq : Nat) (AR : Option Addr) (nr cr : Nat) : Value :=
  .agg #[.slice A n c, .slice AE m ce, .int .i64 0, .int .i64 0, .slice AP np cp, .slice AQ nq cq, .slice AR nr cr]


set_option maxHeartbeats 8000000 in
set_option maxRecDepth 100000 in
theorem leads_calls (w : World) (A AE : Option Addr) (n cg ce : Nat) (R : List (Int × Int)) (u v : Int) (he : RdE w AE R) (hr : R.length ≤ 100000) :
    Calls Try.prog 31 #[gV A n cg (.slice AE R.length ce), .int .i64 u, .int .i64 v] w fun e w' => e = .returned (.bool (decide ((u, v) ∈ R))) ∧ Below w.heap.size w w' := by
  obtain ⟨ans, hans⟩ : ∃ ans, decide ((u, v) ∈ R) = ans := ⟨_, rfl⟩
  rw [hans]
  unfold gV
  have HE := Lib.hid he
  have HANS := Lib.hid hans
  clear he hans
  go_enter Try.func31, Try.ntmps31
  go_wp2_with fail
  refine gen_loopw (fun W => At W w.heap.size [.slice A n cg, .slice AE R.length ce, .int .i64 0, .int .i64 0] 27 ∧ Below w.heap.size w W) ?_ ?_
  · exact ⟨At.made rfl rfl, (Below.refl _ _).alloc (Nat.le_refl _) _⟩
  obtain ⟨gx, hgx⟩ : ∃ gx, w.heap.size = gx := ⟨_, rfl⟩
  rw [hgx]
  rintro w3 ⟨hat, hb⟩
  rw [← hgx] at hb
  have HAT := Lib.hid hat
  have HB := Lib.hid hb
  clear hat hb hgx
  go_loopg [7] R.length (fun kq v7 w' => ∃ j : Nat, v7 = .int .i64 (j : Int) ∧ Hid (j + kq = R.length ∧ (∃ q, w' = w3.drewN q) ∧ (u, v) ∉ R.take j))
  case atStart => exact ⟨0, rfl, Lib.hid ⟨by omega, ⟨0, rfl⟩, by simp⟩⟩
  case round =>
    obtain ⟨j, rfl, hI⟩ := hrel
    obtain ⟨hjk, ⟨q, rfl⟩, hall⟩ := hI.out
    clear hI
    have q1 : (w3.drewN q).cell? ⟨gx, 1, none⟩ = some (.slice AE R.length ce) := HAT.out.cell 1 rfl
    by_cases hj : j < R.length
    · obtain ⟨k1, rfl⟩ : ∃ k1, gk = k1 + 1 := ⟨gk - 1, by omega⟩
      obtain ⟨⟨a, b⟩, hxx⟩ : ∃ x, R[j] = x := ⟨_, rfl⟩
      have hx : R[j]? = some (a, b) := by rw [List.getElem?_eq_getElem hj, hxx]
      obtain ⟨be, rfl, qu', qv'⟩ := (HE.out.below HB.out) j a b hx
      have qu : (w3.drewN q).cell? ⟨be, j * 4 + 1, none⟩ = some (.int .i64 a) := qu'
      have qv : (w3.drewN q).cell? ⟨be, j * 4 + 2, none⟩ = some (.int .i64 b) := qv'
      have hsn : (u, v) ∈ R.take (j + 1) → (u, v) = (a, b) := by
        rw [List.take_add_one, hx]
        intro h
        rcases List.mem_append.1 h with h | h
        · exact absurd h hall
        · simpa using h
      have j0 : (0 : Int) ≤ (j : Int) := by omega
      have j1 : (j : Int) < (R.length : Int) := by omega
      have j2 : (R.length : Int) ≤ 100000 := by omega
      have HJK := Lib.hid hjk
      by_cases hau : a = u
      · by_cases hbv : b = v
        · have HA := Lib.hid (show ans = true by
            rw [← HANS.out, ← hau, ← hbv]
            exact decide_eq_true (List.mem_of_getElem? hx))
          have e1 : (a == u) = true := beq_iff_eq.2 hau
          have e2 : (b == v) = true := beq_iff_eq.2 hbv
          have HBX := Lib.hid HB.out
          clear hsn hx hxx hall hjk qu' qv' hj hau hbv
          go_wp2
          go_ret
          have hb := HBX.out
          exact ⟨by rw [HA.out]; rfl, ⟨hb.os, hb.tape, hb.output, hb.size, hb.block⟩⟩
        · have HSN := Lib.hid (show (u, v) ∉ R.take (j + 1) from fun h => hbv (by have := hsn h; cases this; rfl))
          have e1 : (a == u) = true := beq_iff_eq.2 hau
          have e2 : (b == v) = false := beq_eq_false_iff_ne.2 hbv
          clear hsn hx hxx hall hjk qu' qv' hj hau hbv
          go_wp2
          go_roundg k1
          case measure => have := HJK.out; omega
          case rel => exact ⟨j + 1, by go_num, Lib.hid ⟨by have := HJK.out; omega, ⟨q, rfl⟩, HSN.out⟩⟩
      · have HSN := Lib.hid (show (u, v) ∉ R.take (j + 1) from fun h => hau (by have := hsn h; cases this; rfl))
        have e1 : (a == u) = false := beq_eq_false_iff_ne.2 hau
        clear hsn hx hxx hall hjk qu' qv' hj hau
        go_wp2
        go_roundg k1
        case measure => have := HJK.out; omega
        case rel => exact ⟨j + 1, by go_num, Lib.hid ⟨by have := HJK.out; omega, ⟨q, rfl⟩, HSN.out⟩⟩
    · obtain rfl : j = R.length := by omega
      rw [List.take_length] at hall
      have HA := Lib.hid (show ans = false by rw [← HANS.out]; exact decide_eq_false hall)
      have HBX := Lib.hid HB.out
      clear hall hjk hj
      go_wp2
      go_ret
      have hb := HBX.out
      exact ⟨by rw [HA.out]; rfl, ⟨hb.os, hb.tape, hb.output, hb.size, hb.block⟩⟩

theorem kids_filter (pars : List Int) (u : Int) (i : Nat) (hi : i < pars.length) : ((List.range pars.length).drop i).filter (fun v => decide (pars.getD v 0 = u)) = if pars.getD i 0 = u then i :: ((List.range pars.length).drop (i + 1)).filter (fun v => decide (pars.getD v 0 = u)) else ((List.range pars.length).drop (i + 1)).filter (fun v => decide (pars.getD v 0 = u)) := by
  rw [List.drop_eq_getElem_cons (by simpa using hi), List.getElem_range, List.filter_cons]
  by_cases h : pars.getD i 0 = u
  · rw [if_pos h, if_pos (by simpa using h)]
  · rw [if_neg h, if_neg (by simpa using h)]

set_option maxHeartbeats 8000000 in
set_option maxRecDepth 100000 in
theorem belowR_calls (A : Option Addr) (n c : Nat) (AE : Option Addr) (m ce : Nat) (AP : Option Addr) (cp : Nat) (AQ : Option Addr) (nq cq : Nat) (AR : Option Addr) (nr cr : Nat) (pars : List Int) (rk : Nat → Nat) (hrk : Rk n pars rk) (hn : n ≤ 1000) : ∀ (k : Nat) (u : Int) (L : List Nat) (w : World),
    bel pars k u = some L → RdI w AP pars → L.length ≤ 1000 →
    Calls Try.prog 32 #[cV A n c AE m ce AP n cp AQ nq cq AR nr cr, .int .i64 u] w fun e w' => ∃ v, e = .returned v ∧ One w 3 1 v L.length (ints (nums L)) w' := by
  obtain ⟨i1, hi1, hz1, hs1, hy1⟩ := info_parts Lw.info_int
  intro k
  induction k with
  | zero => intro u L w hL; cases hL
  | succ k ih =>
    intro u L w hL hp hLl
    rw [bel] at hL
    unfold kidsOf at hL
    unfold cV at ih ⊢
    have hpl : pars.length = n := hrk.len
    have HX := Lib.hid (And.intro hL (And.intro hp hpl))
    clear hL hp hpl
    go_enter Try.func32, Try.ntmps32
    go_wp2_with fail
    refine gen_loopw (fun W => At W w.heap.size [.slice A n c, .slice AE m ce, .int .i64 0, .int .i64 0, .slice AP n cp, .slice AQ nq cq, .slice AR nr cr] 30 ∧ Below w.heap.size w W) ?_ ?_
    · exact ⟨At.made rfl rfl, (Below.refl _ _).alloc (Nat.le_refl _) _⟩
    obtain ⟨gx, hgx⟩ : ∃ gx, w.heap.size = gx := ⟨_, rfl⟩
    rw [hgx]
    rintro w3 ⟨hat, hb⟩
    rw [← hgx] at hb
    have HAT := Lib.hid hat
    have HB := Lib.hid hb
    clear hat hb hgx
    go_loopg [5, 6] n (fun kq v5 v6 w' => ∃ i : Nat, v6 = .int .i64 (i : Int) ∧ Hid (∃ acc rest, i + kq = n ∧ belL (bel pars k) (((List.range pars.length).drop i).filter fun v => decide (pars.getD v 0 = u)) = some rest ∧ L = acc ++ rest ∧ One w 3 1 v5 acc.length (ints (nums acc)) w' ∧ At w' gx [.slice A n c, .slice AE m ce, .int .i64 0, .int .i64 0, .slice AP n cp, .slice AQ nq cq, .slice AR nr cr] 30))
    case atStart => exact ⟨0, rfl, Lib.hid ⟨[], L, by omega, by rw [List.drop_zero]; exact HX.out.1, rfl, One.startAt HB.out, HAT.out⟩⟩
    case round =>
      clear HAT HB
      obtain ⟨i, rfl, hI⟩ := hrel
      obtain ⟨acc, rest, hik, hbl, hLa, hO, hat⟩ := hI.out
      clear hI
      have q0 := hat.cell 0 rfl
      have q1 := hat.cell 1 rfl
      have q2 := hat.cell 2 rfl
      have q3 := hat.cell 3 rfl
      have q4 := hat.cell 4 rfl
      have q5 := hat.cell 5 rfl
      have q6 := hat.cell 6 rfl
      by_cases hi : i < n
      · obtain ⟨k1, rfl⟩ : ∃ k1, gk = k1 + 1 := ⟨gk - 1, by omega⟩
        have hir : i < pars.length := by rw [HX.out.2.2]; exact hi
        obtain ⟨x, hx⟩ : ∃ x, pars[i]? = some x := ⟨_, List.getElem?_eq_getElem hir⟩
        rw [kids_filter pars u i hir, show pars.getD i 0 = x by rw [List.getD_eq_getElem?_getD, hx]; rfl] at hbl
        obtain ⟨b, rfl, cx⟩ := (HX.out.2.1.below hO.b) i x hx
        have i0 : (0 : Int) ≤ (i : Int) := by omega
        have i1' : (i : Int) < (n : Int) := by omega
        have i2 : (n : Int) ≤ 1000 := by omega
        by_cases hxu : x = u
        · rw [if_pos hxu] at hbl
          obtain ⟨a, bb, ha, hbb, hab⟩ := belL_cons hbl
          have hlen : acc.length + (a.length + 1 + bb.length) = L.length := by rw [hLa, hab]; simp; omega
          have hal : a.length ≤ 1000 := by omega
          have hcl : acc.length ≤ 1000 := by omega
          have hih := ih (i : Int) a wr ha (HX.out.2.1.below hO.b) hal
          have HIH := Lib.hid hih
          have e1 : (x == u) = true := beq_iff_eq.2 hxu
          have H1 := Lib.hid hO
          have H1X := Lib.hid hat
          have HP := Lib.hid (And.intro hik (And.intro hbb (hLa.trans (by rw [hab]))))
          clear hih hik hbl ha hbb hab hLa hxu hO hat hx hir hlen hi
          go_wp2_with fail
          refine HIH.out.mono ?_
          rintro e w2 ⟨v2, rfl, hO2⟩
          have hsz := H1.out.b.size
          have H2 := Lib.hid (And.intro (H1.out.below hO2.b) (Sp.RdV.of_own hO2.r (fun y hy => mem_int hy)))
          have H2X := Lib.hid (H1X.out.below hO2.b H1X.out.lt)
          clear hO2 HIH q0 q1 q2 q3 q4 q5 q6 cx hsz H1 H1X
          go_wp2_with ((at_builtin; first | (refine wpList_append_any rfl (.tmp 21) (.tmp 24) 24 rfl w.heap.size 3 i1 (.int .i64 0) 1 8 Try.underlying24 hi1 hz1 hs1 hy1 rfl (by omega) _ _ _ rfl H2.out.1.r _ rfl a.length (ints (nums a)) H2.out.2 (by unfold maxLen; omega) (by omega) (by have := H2.out.1.b.size; omega) ?_; intro v5 w5 ho hg hn; have hone := H2.out.1.grow ho hg; have hatw := H2X.out.grown hg (own_off H2.out.1.r H2X.out (by decide)); have H3 := Lib.hid hone; have H3X := Lib.hid hatw; clear ho hg hn hone hatw H2 H2X) | (refine wpList_append_any rfl (.tmp 26) (.tmp 28) 24 rfl w.heap.size 3 i1 (.int .i64 0) 1 8 Try.underlying24 hi1 hz1 hs1 hy1 rfl (by omega) _ _ _ rfl (H3.out.r.alloc (.cells #[.int .i64 (i : Int)] 3)) _ rfl 1 [.int .i64 (i : Int)] (RdV.lit _ #[.int .i64 (i : Int)] 3 1 1 1 rfl (by simp [Value.oneCell'])) (by unfold maxLen; omega) (by omega) (by have := H3.out.b.size; simp; omega) ?_; intro v6 w6 ho hg hn; have hone := (H3.out.below ((Below.refl _ _).alloc (Nat.le_refl _) (.cells #[.int .i64 (i : Int)] 3))).grow ho hg; have hatw := (H3X.out.al (o := .cells #[.int .i64 (i : Int)] 3)).grown hg (own_off (H3.out.r.alloc (.cells #[.int .i64 (i : Int)] 3)) H3X.out.al (by decide)); have H4 := Lib.hid hone; have H4X := Lib.hid hatw; clear ho hg hn hone hatw H3 H3X)))
          go_roundg k1
          case measure => omega
          case rel =>
            obtain ⟨hik, hbb, hLa⟩ := HP.out
            refine ⟨i + 1, by go_num, Lib.hid ⟨acc ++ a ++ [i], bb, by omega, hbb, by rw [hLa]; simp, ?_, H4X.out⟩⟩
            have h5 := H4.out
            rw [nums_append, nums_append, ints_append, ints_append, List.length_append, List.length_append]
            exact h5
        · rw [if_neg hxu] at hbl
          have e1 : (x == u) = false := beq_eq_false_iff_ne.2 hxu
          have H1 := Lib.hid hO
          have H1X := Lib.hid hat
          have HP := Lib.hid (And.intro hik (And.intro hbl hLa))
          clear hik hbl hLa hxu hO hat hx hir hi
          go_wp2
          go_roundg k1
          case measure => omega
          case rel =>
            obtain ⟨hik, hbb, hLa⟩ := HP.out
            exact ⟨i + 1, by go_num, Lib.hid ⟨acc, rest, by omega, hbb, hLa, H1.out, H1X.out⟩⟩
      · rw [List.drop_of_length_le (by rw [List.length_range, HX.out.2.2]; omega), List.filter_nil, belL] at hbl
        obtain rfl := Option.some.inj hbl
        rw [List.append_nil] at hLa
        subst hLa
        obtain rfl : n = i := by omega
        have HQ := Lib.hid hO
        clear hO hat hik hi hbl
        go_wp2
        go_ret
        exact ⟨_, rfl, HQ.out⟩

end Go.Proofs.Ytdohfjidnbhfnaa.Rb
