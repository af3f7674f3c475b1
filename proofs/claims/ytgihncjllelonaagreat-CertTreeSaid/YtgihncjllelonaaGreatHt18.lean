/- heap.Heap[int, float32]: ahead, swap. -/
import Derived.Test.YtgihncjllelonaaGreatHt5
import Derived.Test.YtgihncjllelonaaGreatHt17
import Derived.Deep.MidRow
namespace Go.Proofs.YtgihncjllelonaaGreat.Hf
open Go Go.RowKit Go.Proofs.YtgihncjllelonaaGreat.Mem Go.Proofs.YtgihncjllelonaaGreat.Hn Go.Proofs.YtgihncjllelonaaGreatW.PrintWords Go.Proofs.YtgihncjllelonaaGreatW.PrintLast
attribute [local go_sem ↓] Go.wp_at_zero Go.wp_at_succ
attribute [local go_sem] Go.Proofs.YtgihncjllelonaaGreat.Wt.run_store_float
set_option linter.unusedSimpArgs false
set_option linter.unusedVariables false

def tb137_2.T2 : Bool × List (List Nat × List Nat) := (true, [([], []), ([0], [0]), ([1], [1]), ([2], [2]), ([], []), ([4], [4]), ([], []), ([6], [6]), ([3, 5, 7], [3, 5, 7]), ([8, 8], [8])])
def tb137_2.B2 : List Nat := [0, 1, 3, 7, 0, 16, 0, 64, 255, 511]
theorem tb137_2.tab2 : rtab .any (opsOf Tryz.f137 2) = tb137_2.T2 := by kernel_rfl
theorem tb137_2.bits2 : waitsOk tb137_2.T2.2 tb137_2.B2 = true := by kernel_rfl
def tb137_4.T4 : Bool × List (List Nat × List Nat) := (true, [([], []), ([0], [0]), ([1], [1]), ([2], [2]), ([], []), ([4], [4]), ([], []), ([6], [6]), ([3, 5, 7], [3, 5, 7]), ([8, 8], [8])])
def tb137_4.B4 : List Nat := [0, 1, 3, 7, 0, 16, 0, 64, 255, 511]
theorem tb137_4.tab4 : rtab .any (opsOf Tryz.f137 4) = tb137_4.T4 := by kernel_rfl
theorem tb137_4.bits4 : waitsOk tb137_4.T4.2 tb137_4.B4 = true := by kernel_rfl
set_option maxHeartbeats 4000000 in
set_option maxRecDepth 100000 in
theorem ahead_calls (w : World) (base hb mb i j : Nat) (iv : Value) (its : List Itm) (came : Int) (a b : Itm) (h : Hp w base hb mb iv its came) (ha : its[i]? = some a) (hbb : its[j]? = some b) (hl : its.length ≤ 1000000) :
    Calls Tryz.prog 137 #[.pointer (some ⟨hb, 0, none⟩), .int .i64 (i : Int), .int .i64 (j : Int)] w fun e w' => e = .returned (.bool (aheadI a b)) ∧ Below w.heap.size w w' := by
  have hi : i < its.length := (List.getElem?_eq_some_iff.1 ha).1
  have hj : j < its.length := (List.getElem?_eq_some_iff.1 hbb).1
  have i0 : (0 : Int) ≤ (i : Int) := by omega
  have i1 : (i : Int) < (its.length : Int) := by omega
  have j0 : (0 : Int) ≤ (j : Int) := by omega
  have j1 : (j : Int) < (its.length : Int) := by omega
  have hat := h.hat
  have HRK := Lib.hid (And.intro (h.rk a (List.mem_of_getElem? ha)) (h.rk b (List.mem_of_getElem? hbb)))
  obtain ⟨g, cap, rfl, hbg, hglt⟩ := h.own.form (by omega)
  obtain ⟨n, hn⟩ : ∃ n, its.length = n := ⟨_, rfl⟩
  have d0 := hat.cell 0 rfl
  have d1 := hat.cell 1 rfl
  have hblt := hat.lt
  have n1 : hb ≠ w.heap.size := by omega
  have n2 : hb ≠ w.heap.size + 1 := by omega
  have n3 : g ≠ w.heap.size := by omega
  have n4 : g ≠ w.heap.size + 1 := by omega
  have xa := enc_at its i a ha
  have xb := enc_at its j b hbb
  have a0 := (h.own.cellAt (i * 3) (by omega)).trans xa.1
  have a1 := (h.own.cellAt (i * 3 + 1) (by omega)).trans xa.2.1
  have a2 := (h.own.cellAt (i * 3 + 2) (by omega)).trans xa.2.2
  have b0 := (h.own.cellAt (j * 3) (by omega)).trans xb.1
  have b1' := (h.own.cellAt (j * 3 + 1) (by omega)).trans xb.2.1
  have b2' := (h.own.cellAt (j * 3 + 2) (by omega)).trans xb.2.2
  rw [hn] at i1 j1 d1
  have HN := Lib.hid hn
  have HAT := Lib.hid hat
  clear h ha hbb hl hi hj hn xa xb hat
  go_enter Tryz.func137, Tryz.ntmps137
  go_upto_region 1 with (fail)
  go_cut [7, 8] (fun v7 v8 wc => ∃ b1 b2 : Nat, v7 = .pointer (some ⟨b1, 0, none⟩) ∧ v8 = .pointer (some ⟨b2, 0, none⟩) ∧ Hid (At wc b1 [.int .i64 a.1, .float .f32 a.2.1, .int .i64 a.2.2] 195 ∧ At wc b2 [.int .i64 b.1, .float .f32 b.2.1, .int .i64 b.2.2] 195 ∧ Below w.heap.size w wc))
  case first =>
    go_region
    all_goals go_wp2_with fail
    all_goals go_meet
    all_goals exact ⟨_, _, rfl, rfl, Lib.hid ⟨by repeat (first | (refine At.made ?_ rfl; simp; done) | refine At.drew ?_ | refine At.al ?_), by repeat (first | (refine At.made ?_ rfl; simp; done) | refine At.drew ?_ | refine At.al ?_), by repeat (first | exact Below.refl _ _ | refine Below.drew ?_ | refine Below.alloc ?_ (by first | (simp; done) | (simp; omega)) _)⟩⟩
  case rest =>
    obtain ⟨b1, b2, rfl, rfl, hc⟩ := hcut
    obtain ⟨h1, h2, h3⟩ := hc.out
    have d0 := (HAT.out.below h3 HAT.out.lt).cell 0 rfl
    have da := h1.cell 1 rfl
    have db := h2.cell 1 rfl
    have da2 := h1.cell 2 rfl
    have db2 := h2.cell 2 rfl
    have HB := Lib.hid h3
    clear hc h1 h2 h3 d1 a0 a1 a2 b0 b1' b2'
    by_cases hab : a.2.1 < b.2.1
    · have e1 : decide (a.2.1 < b.2.1) = true := by simpa using hab
      have hr : aheadI a b = true := by simp [aheadI, hab]
      have HR := Lib.hid hr
      clear hr
      go_wp2
      refine start_ (n := 10) (S := fun w' => w'.cell? ⟨hb, 0, none⟩ = some (.func (.func 56) #[] #[]) ∧ w'.cell? ⟨b1, 1, none⟩ = some (.float .f32 a.2.1) ∧ w'.cell? ⟨b2, 1, none⟩ = some (.float .f32 b.2.1)) (ds := []) (bA 10 0) (by kernel_rfl) rfl rfl ⟨d0, da, db⟩ (fun hHeld => ?_)
      refine with_tabW tb137_2.tab2 tb137_2.bits2 (fun HT_ HW_ => ?_)
      refine pw_ 0 24 (bA 10 1) HT_.out ?_
      refine pw_ 1 25 (bA 10 3) HT_.out ?_
      refine pw_ 2 26 (bA 10 7) HT_.out ?_
      refine pw_ 4 28 (bA 10 23) HT_.out ?_
      refine pw_ 6 30 (bA 10 87) HT_.out ?_
      refine tw_ 3 27 (bA 10 95) HT_.out HW_.out hHeld (hv := by rintro w' ⟨s0, s1, s2⟩; go_simp; with_reducible rfl) (h := ?_)
      refine tw_ 5 29 (bA 10 127) HT_.out HW_.out hHeld (hv := by rintro w' ⟨s0, s1, s2⟩; go_simp; with_reducible rfl) (h := ?_)
      refine tw_ 7 31 (bA 10 255) HT_.out HW_.out hHeld (hv := by rintro w' ⟨s0, s1, s2⟩; go_simp; with_reducible rfl) (h := ?_)
      refine one_ (i := 8) (N := some 32) (bA 10 511) rfl rfl (one_of HT_.out (by kernel_rfl)) (by decide) (fun K hK => ?_)
      refine goesV_ Tryz.func56 (by kernel_rfl) rfl #[.float .f32 a.2.1, .float .f32 b.2.1] (by rfl) rfl (.tmp 27) (by rfl) rfl (by simp only [List.map_toArray, List.map_cons, List.map_nil]; rfl) ?_
      with_reducible refine (less_calls _ _ _ HRK.out.1 HRK.out.2).mono ?_
      rintro e w3 ⟨rfl, rfl⟩
      refine ⟨_, rfl, ?_⟩
      refine hK.out _ _ ⟨d0, da, db⟩ (fun hHeld => ?_)
      clear hK K
      refine norm_ (a' := ?_) ?_ ?_
      rotate_left
      · show Act.put _ (some 32) _ = _
        simp only [Act.put, pA, pB, pC, pD, pE]; rfl
      refine pw_ 9 23 (bA 10 1023) HT_.out ?_
      refine done_ (done_of HT_.out (by kernel_rfl)) ?_
      clear hHeld HT_ HW_
      go_wp2
      go_ret
      exact ⟨by rw [HR.out]; rfl, HB.out.drew⟩
    · have e1 : decide (a.2.1 < b.2.1) = false := by simpa using hab
      by_cases hba : b.2.1 < a.2.1
      · have e2 : decide (b.2.1 < a.2.1) = true := by simpa using hba
        have hr : aheadI a b = false := by simp [aheadI, hab, hba]
        have HR := Lib.hid hr
        clear hr
        go_wp2
        refine start_ (n := 10) (S := fun w' => w'.cell? ⟨hb, 0, none⟩ = some (.func (.func 56) #[] #[]) ∧ w'.cell? ⟨b1, 1, none⟩ = some (.float .f32 a.2.1) ∧ w'.cell? ⟨b2, 1, none⟩ = some (.float .f32 b.2.1)) (ds := []) (bA 10 0) (by kernel_rfl) rfl rfl ⟨d0, da, db⟩ (fun hHeld => ?_)
        refine with_tabW tb137_2.tab2 tb137_2.bits2 (fun HT_ HW_ => ?_)
        refine pw_ 0 24 (bA 10 1) HT_.out ?_
        refine pw_ 1 25 (bA 10 3) HT_.out ?_
        refine pw_ 2 26 (bA 10 7) HT_.out ?_
        refine pw_ 4 28 (bA 10 23) HT_.out ?_
        refine pw_ 6 30 (bA 10 87) HT_.out ?_
        refine tw_ 3 27 (bA 10 95) HT_.out HW_.out hHeld (hv := by rintro w' ⟨s0, s1, s2⟩; go_simp; with_reducible rfl) (h := ?_)
        refine tw_ 5 29 (bA 10 127) HT_.out HW_.out hHeld (hv := by rintro w' ⟨s0, s1, s2⟩; go_simp; with_reducible rfl) (h := ?_)
        refine tw_ 7 31 (bA 10 255) HT_.out HW_.out hHeld (hv := by rintro w' ⟨s0, s1, s2⟩; go_simp; with_reducible rfl) (h := ?_)
        refine one_ (i := 8) (N := some 32) (bA 10 511) rfl rfl (one_of HT_.out (by kernel_rfl)) (by decide) (fun K hK => ?_)
        refine goesV_ Tryz.func56 (by kernel_rfl) rfl #[.float .f32 a.2.1, .float .f32 b.2.1] (by rfl) rfl (.tmp 27) (by rfl) rfl (by simp only [List.map_toArray, List.map_cons, List.map_nil]; rfl) ?_
        with_reducible refine (less_calls _ _ _ HRK.out.1 HRK.out.2).mono ?_
        rintro e w3 ⟨rfl, rfl⟩
        refine ⟨_, rfl, ?_⟩
        refine hK.out _ _ ⟨d0, da, db⟩ (fun hHeld => ?_)
        clear hK K
        refine norm_ (a' := ?_) ?_ ?_
        rotate_left
        · show Act.put _ (some 32) _ = _
          simp only [Act.put, pA, pB, pC, pD, pE]; rfl
        refine pw_ 9 23 (bA 10 1023) HT_.out ?_
        refine done_ (done_of HT_.out (by kernel_rfl)) ?_
        clear hHeld HT_ HW_
        go_wp2
        refine start_ (n := 10) (S := fun w' => w'.cell? ⟨hb, 0, none⟩ = some (.func (.func 56) #[] #[]) ∧ w'.cell? ⟨b2, 1, none⟩ = some (.float .f32 b.2.1) ∧ w'.cell? ⟨b1, 1, none⟩ = some (.float .f32 a.2.1)) (ds := []) (bA 10 0) (by kernel_rfl) rfl rfl ⟨d0, db, da⟩ (fun hHeld => ?_)
        refine with_tabW tb137_4.tab4 tb137_4.bits4 (fun HT_ HW_ => ?_)
        refine pw_ 0 34 (bA 10 1) HT_.out ?_
        refine pw_ 1 35 (bA 10 3) HT_.out ?_
        refine pw_ 2 36 (bA 10 7) HT_.out ?_
        refine pw_ 4 38 (bA 10 23) HT_.out ?_
        refine pw_ 6 40 (bA 10 87) HT_.out ?_
        refine tw_ 3 37 (bA 10 95) HT_.out HW_.out hHeld (hv := by rintro w' ⟨s0, s1, s2⟩; go_simp; with_reducible rfl) (h := ?_)
        refine tw_ 5 39 (bA 10 127) HT_.out HW_.out hHeld (hv := by rintro w' ⟨s0, s1, s2⟩; go_simp; with_reducible rfl) (h := ?_)
        refine tw_ 7 41 (bA 10 255) HT_.out HW_.out hHeld (hv := by rintro w' ⟨s0, s1, s2⟩; go_simp; with_reducible rfl) (h := ?_)
        refine one_ (i := 8) (N := some 42) (bA 10 511) rfl rfl (one_of HT_.out (by kernel_rfl)) (by decide) (fun K hK => ?_)
        refine goesV_ Tryz.func56 (by kernel_rfl) rfl #[.float .f32 b.2.1, .float .f32 a.2.1] (by rfl) rfl (.tmp 37) (by rfl) rfl (by simp only [List.map_toArray, List.map_cons, List.map_nil]; rfl) ?_
        with_reducible refine (less_calls _ _ _ HRK.out.2 HRK.out.1).mono ?_
        rintro e w3 ⟨rfl, rfl⟩
        refine ⟨_, rfl, ?_⟩
        refine hK.out _ _ ⟨d0, db, da⟩ (fun hHeld => ?_)
        clear hK K
        refine norm_ (a' := ?_) ?_ ?_
        rotate_left
        · show Act.put _ (some 42) _ = _
          simp only [Act.put, pA, pB, pC, pD, pE]; rfl
        refine pw_ 9 33 (bA 10 1023) HT_.out ?_
        refine done_ (done_of HT_.out (by kernel_rfl)) ?_
        clear hHeld HT_ HW_
        go_wp2
        go_ret
        exact ⟨by rw [HR.out]; rfl, HB.out.drew.drew⟩
      · have e2 : decide (b.2.1 < a.2.1) = false := by simpa using hba
        have hr : aheadI a b = decide (a.2.2 < b.2.2) := by simp [aheadI, hab, hba]
        have HR := Lib.hid hr
        clear hr
        go_wp2
        refine start_ (n := 10) (S := fun w' => w'.cell? ⟨hb, 0, none⟩ = some (.func (.func 56) #[] #[]) ∧ w'.cell? ⟨b1, 1, none⟩ = some (.float .f32 a.2.1) ∧ w'.cell? ⟨b2, 1, none⟩ = some (.float .f32 b.2.1)) (ds := []) (bA 10 0) (by kernel_rfl) rfl rfl ⟨d0, da, db⟩ (fun hHeld => ?_)
        refine with_tabW tb137_2.tab2 tb137_2.bits2 (fun HT_ HW_ => ?_)
        refine pw_ 0 24 (bA 10 1) HT_.out ?_
        refine pw_ 1 25 (bA 10 3) HT_.out ?_
        refine pw_ 2 26 (bA 10 7) HT_.out ?_
        refine pw_ 4 28 (bA 10 23) HT_.out ?_
        refine pw_ 6 30 (bA 10 87) HT_.out ?_
        refine tw_ 3 27 (bA 10 95) HT_.out HW_.out hHeld (hv := by rintro w' ⟨s0, s1, s2⟩; go_simp; with_reducible rfl) (h := ?_)
        refine tw_ 5 29 (bA 10 127) HT_.out HW_.out hHeld (hv := by rintro w' ⟨s0, s1, s2⟩; go_simp; with_reducible rfl) (h := ?_)
        refine tw_ 7 31 (bA 10 255) HT_.out HW_.out hHeld (hv := by rintro w' ⟨s0, s1, s2⟩; go_simp; with_reducible rfl) (h := ?_)
        refine one_ (i := 8) (N := some 32) (bA 10 511) rfl rfl (one_of HT_.out (by kernel_rfl)) (by decide) (fun K hK => ?_)
        refine goesV_ Tryz.func56 (by kernel_rfl) rfl #[.float .f32 a.2.1, .float .f32 b.2.1] (by rfl) rfl (.tmp 27) (by rfl) rfl (by simp only [List.map_toArray, List.map_cons, List.map_nil]; rfl) ?_
        with_reducible refine (less_calls _ _ _ HRK.out.1 HRK.out.2).mono ?_
        rintro e w3 ⟨rfl, rfl⟩
        refine ⟨_, rfl, ?_⟩
        refine hK.out _ _ ⟨d0, da, db⟩ (fun hHeld => ?_)
        clear hK K
        refine norm_ (a' := ?_) ?_ ?_
        rotate_left
        · show Act.put _ (some 32) _ = _
          simp only [Act.put, pA, pB, pC, pD, pE]; rfl
        refine pw_ 9 23 (bA 10 1023) HT_.out ?_
        refine done_ (done_of HT_.out (by kernel_rfl)) ?_
        clear hHeld HT_ HW_
        go_wp2
        refine start_ (n := 10) (S := fun w' => w'.cell? ⟨hb, 0, none⟩ = some (.func (.func 56) #[] #[]) ∧ w'.cell? ⟨b2, 1, none⟩ = some (.float .f32 b.2.1) ∧ w'.cell? ⟨b1, 1, none⟩ = some (.float .f32 a.2.1)) (ds := []) (bA 10 0) (by kernel_rfl) rfl rfl ⟨d0, db, da⟩ (fun hHeld => ?_)
        refine with_tabW tb137_4.tab4 tb137_4.bits4 (fun HT_ HW_ => ?_)
        refine pw_ 0 34 (bA 10 1) HT_.out ?_
        refine pw_ 1 35 (bA 10 3) HT_.out ?_
        refine pw_ 2 36 (bA 10 7) HT_.out ?_
        refine pw_ 4 38 (bA 10 23) HT_.out ?_
        refine pw_ 6 40 (bA 10 87) HT_.out ?_
        refine tw_ 3 37 (bA 10 95) HT_.out HW_.out hHeld (hv := by rintro w' ⟨s0, s1, s2⟩; go_simp; with_reducible rfl) (h := ?_)
        refine tw_ 5 39 (bA 10 127) HT_.out HW_.out hHeld (hv := by rintro w' ⟨s0, s1, s2⟩; go_simp; with_reducible rfl) (h := ?_)
        refine tw_ 7 41 (bA 10 255) HT_.out HW_.out hHeld (hv := by rintro w' ⟨s0, s1, s2⟩; go_simp; with_reducible rfl) (h := ?_)
        refine one_ (i := 8) (N := some 42) (bA 10 511) rfl rfl (one_of HT_.out (by kernel_rfl)) (by decide) (fun K hK => ?_)
        refine goesV_ Tryz.func56 (by kernel_rfl) rfl #[.float .f32 b.2.1, .float .f32 a.2.1] (by rfl) rfl (.tmp 37) (by rfl) rfl (by simp only [List.map_toArray, List.map_cons, List.map_nil]; rfl) ?_
        with_reducible refine (less_calls _ _ _ HRK.out.2 HRK.out.1).mono ?_
        rintro e w3 ⟨rfl, rfl⟩
        refine ⟨_, rfl, ?_⟩
        refine hK.out _ _ ⟨d0, db, da⟩ (fun hHeld => ?_)
        clear hK K
        refine norm_ (a' := ?_) ?_ ?_
        rotate_left
        · show Act.put _ (some 42) _ = _
          simp only [Act.put, pA, pB, pC, pD, pE]; rfl
        refine pw_ 9 33 (bA 10 1023) HT_.out ?_
        refine done_ (done_of HT_.out (by kernel_rfl)) ?_
        clear hHeld HT_ HW_
        go_wp2
        go_ret
        exact ⟨by rw [HR.out]; rfl, HB.out.drew.drew⟩

end Go.Proofs.YtgihncjllelonaaGreat.Hf

/- heap.Heap[int, float32]: swap, and what a step of the heap keeps. -/
namespace Go.Proofs.YtgihncjllelonaaGreat.Hf
open Go Go.RowKit Go.Proofs.YtgihncjllelonaaGreat.Mem Go.Proofs.YtgihncjllelonaaGreat.Hn Go.Proofs.YtgihncjllelonaaGreatW.PrintWords Go.Proofs.YtgihncjllelonaaGreatW.PrintLast
attribute [local go_sem ↓] Go.wp_at_zero Go.wp_at_succ
attribute [local go_sem] Go.Proofs.YtgihncjllelonaaGreat.Wt.run_store_float
set_option linter.unusedSimpArgs false
set_option linter.unusedVariables false

structure HK (hb mb : Nat) (iv : Value) (w w' : World) : Prop where
  os : w'.os = w.os
  tape : w'.tape = w.tape
  output : w'.output = w.output
  size : w.heap.size ≤ w'.heap.size
  block : ∀ k, k < w.heap.size → k ≠ hb → k ≠ mb → some k ≠ iv.ownBlock → w'.heap[k]? = w.heap[k]?

section
variable {hb mb : Nat} {iv : Value} {w w1 w2 : World}
theorem HK.refl (hb mb : Nat) (iv : Value) (w : World) : HK hb mb iv w w := ⟨rfl, rfl, rfl, Nat.le_refl _, fun _ _ _ _ _ => rfl⟩
theorem HK.trans (h : HK hb mb iv w w1) (h' : HK hb mb iv w1 w2) : HK hb mb iv w w2 :=
  ⟨h'.os.trans h.os, h'.tape.trans h.tape, h'.output.trans h.output, Nat.le_trans h.size h'.size, fun k hk h1 h2 h3 => (h'.block k (Nat.lt_of_lt_of_le hk h.size) h1 h2 h3).trans (h.block k hk h1 h2 h3)⟩
theorem HK.drew (h : HK hb mb iv w w1) : HK hb mb iv w w1.drew := ⟨h.os, h.tape, h.output, h.size, h.block⟩
theorem HK.ofBelow (h : Below w.heap.size w w1) : HK hb mb iv w w1 := ⟨h.os, h.tape, h.output, h.size, fun k hk _ _ _ => h.block k hk⟩
theorem HK.ofGrown {row : Option Nat} (h : w.grownBy w1 row) (hr : row = iv.ownBlock) : HK hb mb iv w w1 := ⟨h.os, h.tape, h.output, h.size, fun k hk _ _ h3 => h.block k hk (by rw [hr]; exact h3)⟩
theorem HK.below (h : HK hb mb iv w w1) (h' : Below w1.heap.size w1 w2) : HK hb mb iv w w2 := h.trans (HK.ofBelow h')
theorem HK.grown {row : Option Nat} (h : HK hb mb iv w w1) (h' : w1.grownBy w2 row) (hr : row = iv.ownBlock) : HK hb mb iv w w2 := h.trans (HK.ofGrown h' hr)
theorem HK.put (h : HK hb mb iv w w1) (o : Obj) : HK hb mb iv w (putObj w1 mb o) :=
  h.trans ⟨rfl, rfl, rfl, by rw [putObj_size]; exact Nat.le_refl _, fun k _ _ h2 _ => putObj_far h2⟩
theorem HK.set (h : HK hb mb iv w w1) (i : Nat) (u : Value) : HK hb mb iv w (w1.setCell ⟨hb, i, none⟩ u) :=
  h.trans ⟨rfl, rfl, rfl, by simp [World.setCell], fun k _ h1 _ _ => heap_setCell_other w1 ⟨hb, i, none⟩ k u h1⟩
theorem HK.al (h : HK hb mb iv w w1) (o : Obj) : HK hb mb iv w (w1.alloc o) := h.below ((Below.refl _ _).alloc (Nat.le_refl _) o)
end

theorem store3_ {P : Program} {ops : Array Oper} {Q : Exit → Act → World → Prop} {oi : Oper} {a : Act} {w : World} {K : Act → World → Prop} (hw : Region.wanted oi (yielded ops a.tmps) = true) (hN : oi.dst = none) (ty : TypeId) (x y : Operand) (ho : oi.op = .store ty x y) (b o : Nat) (cells : Array Value)
    (hx : a.eval x = .pointer (some ⟨b, o, none⟩)) (hy : a.eval y = .agg cells) (ht : w.there b o cells.size) (hi : (P.info? ty).map (·.size) = some cells.size) (h1 : cells.all (·.oneCell') = true)
    (h : K a (w.setCells b o cells.toList)) : if Region.wanted oi (yielded ops a.tmps) = true then Oper.wp P oi a w K Q else K (a.put none undef) w := by
  rw [if_pos hw]
  refine wp_store_mid ty x y ho b o cells hx hy ht hi h1 ?_
  rw [hN]
  exact h

theorem own_there {w : World} {base g n cap j : Nat} {T : TypeId} {xs : List Value} (h : w.ownsRow base T 3 (.slice (some ⟨g, 0, none⟩) n cap) n xs) (hj : j < n) : w.there g (j * 3) 3 := fun k hk => by
  refine ⟨?_, h.frozenAt _⟩
  rw [h.cellAt _ (by omega), List.getElem?_eq_getElem (by rw [h.1]; omega)]
  rfl

theorem own_put {w : World} {base g n cap : Nat} {T : TypeId} {its : List Itm} (h : w.ownsRow base T 3 (.slice (some ⟨g, 0, none⟩) n cap) n (enc its)) (j : Nat) (x : Itm) :
    (w.setCells g (j * 3) [.int .i64 x.1, .float .f32 x.2.1, .int .i64 x.2.2]).ownsRow base T 3 (.slice (some ⟨g, 0, none⟩) n cap) n (enc (its.set j x)) ∧ w.grownBy (w.setCells g (j * 3) [.int .i64 x.1, .float .f32 x.2.1, .int .i64 x.2.2]) (some g) := by
  have s1 := h.stored (j * 3) (.int .i64 x.1)
  have s2 := s1.1.stored (j * 3 + 1) (.float .f32 x.2.1)
  have s3 := s2.1.stored (j * 3 + 1 + 1) (.int .i64 x.2.2)
  refine ⟨?_, ?_⟩
  · rw [← enc_set]
    exact s3.1
  · have hall : ∀ k, k < w.heap.size → some k ≠ some g → (w.setCells g (j * 3) [.int .i64 x.1, .float .f32 x.2.1, .int .i64 x.2.2]).heap[k]? = w.heap[k]? := fun k hk hne => by
      have t1 := s1.2.block k hk hne
      have t2 := s2.2.block k (by have := s1.2.size; omega) hne
      have t3 := s3.2.block k (by have := s1.2.size; have := s2.2.size; omega) hne
      exact t3.trans (t2.trans t1)
    exact ⟨rfl, rfl, rfl, by have := s1.2.size; have := s2.2.size; have := s3.2.size; simp [World.setCells, World.setCell], hall⟩

theorem getD_of {its : List Itm} {i : Nat} {a : Itm} (h : its[i]? = some a) : its.getD i z = a := by rw [List.getD_eq_getElem?_getD, h]; rfl

theorem upd_swap {f : Int → Option Int} {its : List Itm} (h : Fits f its) {i j : Nat} {a b : Itm} (ha : its[i]? = some a) (hb : its[j]? = some b) : Fits (upd (upd f b.1 (some (i : Int))) a.1 (some (j : Int))) (swapL its i j) := by
  have := h.swap ha hb
  exact this

theorem set_swap {its : List Itm} {i j : Nat} {a b : Itm} (ha : its[i]? = some a) (hb : its[j]? = some b) : (its.set i b).set j a = swapL its i j := by
  rw [swapL, getD_of ha, getD_of hb]

def tb138_0.T0 : Bool × List (List Nat × List Nat) := (true, [([], []), ([0], [0]), ([1], [1]), ([2], [2]), ([], []), ([], []), ([5], [5]), ([6], [6]), ([7], [7]), ([], []), ([], []), ([10], [10]), ([11], [11]), ([12], [12]), ([], []), ([13, 14], [13, 14]), ([15], [15]), ([], []), ([17], [17]), ([18], [18]), ([19], [19]), ([], []), ([20, 21], [20, 21]), ([22], [22]), ([3, 4, 0, 1, 2, 3, 4, 8, 10, 11, 12, 13, 14, 15, 16, 20, 23], [3, 4]), ([24, 16, 0, 1, 2, 3, 4, 8, 10, 11, 12, 13, 14, 15, 16, 20, 23], [16, 24]), ([8, 9, 0, 1, 2, 3, 4, 5, 6, 7, 8, 9, 10, 11, 12, 13, 14, 15, 16, 17, 18, 19, 20, 21, 22, 23, 24, 25], [8, 9]), ([26, 23, 25, 0, 1, 2, 3, 4, 5, 6, 7, 8, 9, 10, 11, 12, 13, 14, 15, 16, 17, 18, 19, 20, 21, 22, 23, 24, 25], [23, 26])])
def tb138_0.B0 : List Nat := [0, 1, 3, 7, 0, 0, 32, 96, 224, 0, 0, 1024, 3072, 7168, 0, 31744, 64512, 0, 131072, 393216, 917504, 0, 4063232, 8257536, 16776703, 33553919, 67108863, 134217727]
theorem tb138_0.tab0 : rtab .any (opsOf Tryz.f138 0) = tb138_0.T0 := by kernel_rfl
theorem tb138_0.bits0 : waitsOk tb138_0.T0.2 tb138_0.B0 = true := by kernel_rfl
def tb138_1.T1 : Bool × List (List Nat × List Nat) := (true, [([], []), ([0], [0]), ([1], [1]), ([2], [2]), ([], []), ([4], [4]), ([5], [5]), ([6], [6]), ([], []), ([7, 8], [7, 8]), ([9], [9]), ([10], [10]), ([], []), ([12], [12]), ([13], [13]), ([14], [14]), ([], []), ([16], [16]), ([17], [17]), ([18], [18]), ([], []), ([19, 20], [19, 20]), ([21], [21]), ([22], [22]), ([], []), ([], []), ([3, 11, 15, 19, 23], [3, 11]), ([26], [26]), ([3, 27, 24, 26, 0, 1, 2, 3, 4, 5, 6, 7, 8, 9, 10, 11, 15, 19, 23, 24, 26], [3, 24, 27]), ([15, 23, 28, 0, 1, 2, 3, 4, 5, 6, 7, 8, 9, 10, 11, 15, 19, 23, 24, 26, 27, 28], [15, 23]), ([29], [29]), ([15, 30, 25, 29, 0, 1, 2, 3, 4, 5, 6, 7, 8, 9, 10, 11, 12, 13, 14, 15, 16, 17, 18, 19, 20, 21, 22, 23, 24, 25, 26, 27, 28, 29], [15, 25, 30])])
def tb138_1.B1 : List Nat := [0, 1, 3, 7, 0, 16, 48, 112, 0, 496, 1008, 2032, 0, 4096, 12288, 28672, 0, 65536, 196608, 458752, 0, 2031616, 4128768, 8323072, 0, 0, 16777215, 83886079, 234881023, 503316479, 1040187391, 2147483647]
theorem tb138_1.tab1 : rtab .any (opsOf Tryz.f138 1) = tb138_1.T1 := by kernel_rfl
theorem tb138_1.bits1 : waitsOk tb138_1.T1.2 tb138_1.B1 = true := by kernel_rfl
set_option maxHeartbeats 4000000 in
set_option maxRecDepth 100000 in
theorem swap_calls (w : World) (base hb mb i j : Nat) (iv : Value) (its : List Itm) (came : Int) (a b : Itm) (h : Hp w base hb mb iv its came) (ha : its[i]? = some a) (hbb : its[j]? = some b) (hl : its.length ≤ 1000000) :
    Calls Tryz.prog 138 #[.pointer (some ⟨hb, 0, none⟩), .int .i64 (i : Int), .int .i64 (j : Int)] w fun e w' => e = .returned (.tuple #[]) ∧ Hp w' base hb mb iv (swapL its i j) came ∧ HK hb mb iv w w' := by
  have hi : i < its.length := (List.getElem?_eq_some_iff.1 ha).1
  have hj : j < its.length := (List.getElem?_eq_some_iff.1 hbb).1
  have i0 : (0 : Int) ≤ (i : Int) := by omega
  have i1 : (i : Int) < (its.length : Int) := by omega
  have j0 : (0 : Int) ≤ (j : Int) := by omega
  have j1 : (j : Int) < (its.length : Int) := by omega
  have hat := h.hat
  have HRK := Lib.hid (show ∀ x ∈ swapL its i j, x.2.1 ≤ 2139095040 from fun x hx => h.rk x ((mem_swapL its hi hj x).1 hx))
  obtain ⟨f, hmp, hfit⟩ := h.mp
  have hown := h.own
  obtain ⟨g, cap, rfl, hbg, hglt⟩ := hown.form (by omega)
  have hlb := h.lb
  have hlm := h.lm
  have hswl := swapL_length its i j
  obtain ⟨n, hn⟩ : ∃ n, its.length = n := ⟨_, rfl⟩
  have d1 := hat.cell 1 rfl
  have xa := enc_at its i a ha
  have xb := enc_at its j b hbb
  rw [hn] at hown hat i1 j1 d1 hswl
  have a0 := (hown.cellAt (i * 3) (by omega)).trans xa.1
  have a1 := (hown.cellAt (i * 3 + 1) (by omega)).trans xa.2.1
  have a2 := (hown.cellAt (i * 3 + 2) (by omega)).trans xa.2.2
  have b0 := (hown.cellAt (j * 3) (by omega)).trans xb.1
  have b1 := (hown.cellAt (j * 3 + 1) (by omega)).trans xb.2.1
  have b2 := (hown.cellAt (j * 3 + 2) (by omega)).trans xb.2.2
  have o1 := own_put (x := b) (j := i) (show w.drew.ownsRow base 195 3 (.slice (some ⟨g, 0, none⟩) n cap) n (enc its) from hown)
  have o2 := own_put o1.1 j a
  rw [set_swap ha hbb] at o2
  have HTi := Lib.hid (own_there (show w.drew.ownsRow base 195 3 (.slice (some ⟨g, 0, none⟩) n cap) n (enc its) from hown) (show i < n by omega))
  have HTj := Lib.hid (own_there o1.1 (show j < n by omega))
  have hne : hb ≠ g := by omega
  have hneM : mb ≠ g := by omega
  have hat2 : At (World.setCells (World.setCells w.drew g (i * 3) [.int .i64 b.1, .float .f32 b.2.1, .int .i64 b.2.2]) g (j * 3) [.int .i64 a.1, .float .f32 a.2.1, .int .i64 a.2.2]) hb [.func (.func 56) #[] #[], .slice (some ⟨g, 0, none⟩) n cap, .map (some mb), .int .i64 came] 193 :=
    ((hat.drew).grown o1.2 (by simp; omega)).grown o2.2 (by simp; omega)
  have hmp2 := ((hmp.drew).grown o1.2 (by simp; omega)).grown o2.2 (by simp; omega)
  have hk2 := ((HK.refl hb mb (.slice (some ⟨g, 0, none⟩) n cap) w).drew.grown o1.2 rfl).grown o2.2 rfl
  have HN := Lib.hid hn
  have HS := Lib.hid (And.intro hat2 (And.intro o2.1 (And.intro hmp2 hk2)))
  have HF := Lib.hid hfit
  have HL := Lib.hid (And.intro hlb (And.intro hlm hbg))
  have HAB := Lib.hid (And.intro ha hbb)
  have HSW := Lib.hid hswl
  clear h hl hi hj hn xa xb hat hmp hfit hown hlb hlm hbg hglt o1 o2 hat2 hmp2 hk2 hne hneM ha hbb hswl
  go_enter Tryz.func138, Tryz.ntmps138
  go_wp2
  refine start_ (n := 28) (S := fun w' => w'.cell? ⟨hb, 1, none⟩ = some (.slice (some ⟨g, 0, none⟩) n cap) ∧ w'.cell? ⟨g, i * 3, none⟩ = some (.int .i64 a.1) ∧ w'.cell? ⟨g, i * 3 + 1, none⟩ = some (.float .f32 a.2.1) ∧ w'.cell? ⟨g, i * 3 + 2, none⟩ = some (.int .i64 a.2.2) ∧ w'.cell? ⟨g, j * 3, none⟩ = some (.int .i64 b.1) ∧ w'.cell? ⟨g, j * 3 + 1, none⟩ = some (.float .f32 b.2.1) ∧ w'.cell? ⟨g, j * 3 + 2, none⟩ = some (.int .i64 b.2.2)) (ds := [25, 27]) (bA 28 0) (by kernel_rfl) rfl rfl ⟨d1, a0, a1, a2, b0, b1, b2⟩ (fun hHeld => ?_)
  refine with_tabW tb138_0.tab0 tb138_0.bits0 (fun HT_ HW_ => ?_)
  refine pw_ 0 6 (bA 28 1) HT_.out ?_
  refine pw_ 1 7 (bA 28 3) HT_.out ?_
  refine pw_ 2 8 (bA 28 7) HT_.out ?_
  refine pw_ 4 10 (bA 28 23) HT_.out ?_
  refine pw_ 5 11 (bA 28 55) HT_.out ?_
  refine pw_ 6 12 (bA 28 119) HT_.out ?_
  refine pw_ 7 13 (bA 28 247) HT_.out ?_
  refine pw_ 9 15 (bA 28 759) HT_.out ?_
  refine pw_ 10 16 (bA 28 1783) HT_.out ?_
  refine pw_ 11 17 (bA 28 3831) HT_.out ?_
  refine pw_ 12 18 (bA 28 7927) HT_.out ?_
  refine pw_ 14 20 (bA 28 24311) HT_.out ?_
  refine pw_ 17 23 (bA 28 155383) HT_.out ?_
  refine pw_ 18 24 (bA 28 417527) HT_.out ?_
  refine pw_ 19 25 (bA 28 941815) HT_.out ?_
  refine pw_ 21 27 (bA 28 3038967) HT_.out ?_
  refine tw_ 3 9 (bA 28 3038975) HT_.out HW_.out hHeld (hv := by rintro w' ⟨s0, s1, s2, s3, s4, s5, s6⟩; go_simp; with_reducible rfl) (h := ?_)
  refine tw_ 8 14 (bA 28 3039231) HT_.out HW_.out hHeld (hv := by rintro w' ⟨s0, s1, s2, s3, s4, s5, s6⟩; go_simp; with_reducible rfl) (h := ?_)
  refine tw_ 13 19 (bA 28 3047423) HT_.out HW_.out hHeld (hv := by rintro w' ⟨s0, s1, s2, s3, s4, s5, s6⟩; go_simp; with_reducible rfl) (h := ?_)
  refine pw_ 15 21 (bA 28 3080191) HT_.out ?_
  refine tw_ 16 22 (bA 28 3145727) HT_.out HW_.out hHeld (hv := by rintro w' ⟨s0, s1, s2, s3, s4, s5, s6⟩; go_simp; with_reducible rfl) (h := ?_)
  refine tw_ 20 26 (bA 28 4194303) HT_.out HW_.out hHeld (hv := by rintro w' ⟨s0, s1, s2, s3, s4, s5, s6⟩; go_simp; with_reducible rfl) (h := ?_)
  refine pw_ 22 28 (bA 28 8388607) HT_.out ?_
  refine tw_ 23 29 (bA 28 16777215) HT_.out HW_.out hHeld (hv := by rintro w' ⟨s0, s1, s2, s3, s4, s5, s6⟩; go_simp; with_reducible rfl) (h := ?_)
  refine pw_ 24 30 (bA 28 33554431) HT_.out ?_
  refine last_ (i := 25) (N := none) (bA 28 67108863) rfl rfl (one_of HT_.out (by kernel_rfl)) (by decide) (fun K hK => ?_)
  refine store3_ (by rfl) rfl 195 (.tmp 30) (.tmp 22) (by rfl) g (i * 3) #[.int .i64 b.1, .float .f32 b.2.1, .int .i64 b.2.2] (by rfl) (by rfl) (HTi.out) (by kernel_rfl) (by simp [Value.oneCell']) ?_
  refine hK.out _ _ ?_; clear hK K
  refine pw_ 26 31 (bA 28 134217727) HT_.out ?_
  refine last_ (i := 27) (N := none) (bA 28 268435455) rfl rfl (one_of HT_.out (by kernel_rfl)) (by decide) (fun K hK => ?_)
  refine store3_ (by rfl) rfl 195 (.tmp 31) (.tmp 29) (by rfl) g (j * 3) #[.int .i64 a.1, .float .f32 a.2.1, .int .i64 a.2.2] (by rfl) (by rfl) (HTj.out) (by kernel_rfl) (by simp [Value.oneCell']) ?_
  refine hK.out _ _ ?_; clear hK K
  refine done_ (done_of HT_.out (by kernel_rfl)) ?_
  clear hHeld HT_ HW_
  refine gen_then (fun W => At W hb [.func (.func 56) #[] #[], .slice (some ⟨g, 0, none⟩) n cap, .map (some mb), .int .i64 came] 193 ∧ W.ownsRow base 195 3 (.slice (some ⟨g, 0, none⟩) n cap) n (enc (swapL its i j)) ∧ MP W mb f ∧ HK hb mb (.slice (some ⟨g, 0, none⟩) n cap) w W) HS.out ?_
  clear HS HTi HTj d1 a0 a1 a2 b0 b1 b2
  rintro W ⟨hat, hown, hmp, hk⟩
  have d1 := hat.cell 1 rfl
  have d2 := hat.cell 2 rfl
  have hij : i < its.length ∧ j < its.length := ⟨(List.getElem?_eq_some_iff.1 HAB.out.1).1, (List.getElem?_eq_some_iff.1 HAB.out.2).1⟩
  have hn := HN.out
  have si : (swapL its i j)[i]? = some b := by
    rw [swapL_get its hij.1 hij.2]
    by_cases hij' : i = j
    · subst hij'
      rw [if_pos rfl, HAB.out.1, ← HAB.out.2, HAB.out.1]
    · rw [if_neg hij', if_pos rfl]
      exact HAB.out.2
  have sj : (swapL its i j)[j]? = some a := by rw [swapL_get its hij.1 hij.2, if_pos rfl]; exact HAB.out.1
  have c0 := (hown.cellAt (i * 3) (by omega)).trans (enc_at _ i b si).1
  have c1 := (hown.cellAt (j * 3) (by omega)).trans (enc_at _ j a sj).1
  have f1 : f b.1 = some (j : Int) := (HF.out b.1 j).2 ⟨j, rfl, b, HAB.out.2, rfl⟩
  have f2 : f a.1 = some (i : Int) := (HF.out a.1 i).2 ⟨i, rfl, a, HAB.out.1, rfl⟩
  obtain ⟨st1, ob1, e1, e2, hmp1⟩ := MP.entry (P := Tryz.prog) (T := 159) (show MP W.drew mb f from hmp) Tryz.underlying159 Tryz.underlying3 b.1 (i : Int) (j : Int) f1
  obtain ⟨v2, f3⟩ : ∃ v2, upd f b.1 (some (i : Int)) a.1 = some v2 := by
    unfold upd
    split
    · exact ⟨_, rfl⟩
    · exact ⟨_, f2⟩
  obtain ⟨st2, ob2, e3, e4, hmp2⟩ := MP.entry (P := Tryz.prog) (T := 159) hmp1 Tryz.underlying159 Tryz.underlying3 a.1 (j : Int) v2 f3
  have hbm : hb ≠ mb := hmp.ne hat
  have hown2 := own_putObj (o := ob1) (show W.drew.ownsRow base 195 3 (.slice (some ⟨g, 0, none⟩) n cap) n (enc (swapL its i j)) from hown) HL.out.2.1
  have hat2 := (hat.drew).putObj (o := ob1) hbm
  have d1' := hat2.cell 1 rfl
  have d2' := hat2.cell 2 rfl
  have c0' := (hown2.cellAt (i * 3) (by omega)).trans (enc_at _ i b si).1
  have c1' := (hown2.cellAt (j * 3) (by omega)).trans (enc_at _ j a sj).1
  have HE := Lib.hid (And.intro (hat2.putObj (o := ob2) hbm) (And.intro (own_putObj (o := ob2) hown2 HL.out.2.1) (And.intro hmp2 ((hk.drew.put ob1).put ob2))))
  clear hat hown hmp hk hij hn si sj f1 f2 f3 hmp1 hmp2 hbm hown2 hat2
  go_wp2
  refine start_ (n := 32) (S := fun w' => w'.cell? ⟨hb, 1, none⟩ = some (.slice (some ⟨g, 0, none⟩) n cap) ∧ w'.cell? ⟨hb, 2, none⟩ = some (.map (some mb)) ∧ w'.cell? ⟨g, i * 3, none⟩ = some (.int .i64 b.1) ∧ w'.cell? ⟨g, j * 3, none⟩ = some (.int .i64 a.1)) (ds := [31]) (bA 32 0) (by kernel_rfl) rfl rfl ⟨d1, d2, c0, c1⟩ (fun hHeld => ?_)
  refine with_tabW tb138_1.tab1 tb138_1.bits1 (fun HT_ HW_ => ?_)
  refine pw_ 0 32 (bA 32 1) HT_.out ?_
  refine pw_ 1 33 (bA 32 3) HT_.out ?_
  refine pw_ 2 34 (bA 32 7) HT_.out ?_
  refine pw_ 4 36 (bA 32 23) HT_.out ?_
  refine pw_ 5 37 (bA 32 55) HT_.out ?_
  refine pw_ 6 38 (bA 32 119) HT_.out ?_
  refine pw_ 8 40 (bA 32 375) HT_.out ?_
  refine pw_ 12 44 (bA 32 4471) HT_.out ?_
  refine pw_ 13 45 (bA 32 12663) HT_.out ?_
  refine pw_ 14 46 (bA 32 29047) HT_.out ?_
  refine pw_ 16 48 (bA 32 94583) HT_.out ?_
  refine pw_ 17 49 (bA 32 225655) HT_.out ?_
  refine pw_ 18 50 (bA 32 487799) HT_.out ?_
  refine pw_ 20 52 (bA 32 1536375) HT_.out ?_
  refine pw_ 24 56 (bA 32 18313591) HT_.out ?_
  refine pw_ 25 57 (bA 32 51868023) HT_.out ?_
  refine tw_ 3 35 (bA 32 51868031) HT_.out HW_.out hHeld (hv := by rintro w' ⟨s0, s1, s2, s3⟩; go_simp; with_reducible rfl) (h := ?_)
  refine tw_ 7 39 (bA 32 51868159) HT_.out HW_.out hHeld (hv := by rintro w' ⟨s0, s1, s2, s3⟩; go_simp; with_reducible rfl) (h := ?_)
  refine pw_ 9 41 (bA 32 51868671) HT_.out ?_
  refine pw_ 10 42 (bA 32 51869695) HT_.out ?_
  refine tw_ 11 43 (bA 32 51871743) HT_.out HW_.out hHeld (hv := by rintro w' ⟨s0, s1, s2, s3⟩; go_simp; with_reducible rfl) (h := ?_)
  refine tw_ 15 47 (bA 32 51904511) HT_.out HW_.out hHeld (hv := by rintro w' ⟨s0, s1, s2, s3⟩; go_simp; with_reducible rfl) (h := ?_)
  refine tw_ 19 51 (bA 32 52428799) HT_.out HW_.out hHeld (hv := by rintro w' ⟨s0, s1, s2, s3⟩; go_simp; with_reducible rfl) (h := ?_)
  refine pw_ 21 53 (bA 32 54525951) HT_.out ?_
  refine pw_ 22 54 (bA 32 58720255) HT_.out ?_
  refine tw_ 23 55 (bA 32 67108863) HT_.out HW_.out hHeld (hv := by rintro w' ⟨s0, s1, s2, s3⟩; go_simp; with_reducible rfl) (h := ?_)
  refine one_ (i := 26) (N := some 58) (bA 32 134217727) rfl rfl (one_of HT_.out (by kernel_rfl)) (by decide) (fun K hK => ?_)
  refine value_ (w1 := ?_) (v := ?_) (by rfl) rfl ?_ ?_
  rotate_left 2
  · go_simp
    constructor
    · rfl
    · rfl
  refine hK.out _ _ ⟨d1, d2, c0, c1⟩ (fun hHeld => ?_)
  clear hK K
  refine norm_ (a' := ?_) ?_ ?_
  rotate_left
  · show Act.put _ (some 58) _ = _
    simp only [Act.put, pA, pB, pC, pD, pE]; rfl
  refine pw_ 27 59 (bA 32 268435455) HT_.out ?_
  refine one_ (i := 28) (N := none) (bA 32 536870911) rfl rfl (one_of HT_.out (by kernel_rfl)) (by decide) (fun K hK => ?_)
  refine skip_ (w1 := ?_) (by rfl) rfl ?_ ?_
  rotate_left; · go_simp; rfl
  refine hK.out _ _ ⟨d1', d2', c0', c1'⟩ (fun hHeld => ?_)
  clear hK K
  refine one_ (i := 29) (N := some 60) (bA 32 1073741823) rfl rfl (one_of HT_.out (by kernel_rfl)) (by decide) (fun K hK => ?_)
  refine value_ (w1 := ?_) (v := ?_) (by rfl) rfl ?_ ?_
  rotate_left 2
  · go_simp
    constructor
    · rfl
    · rfl
  refine hK.out _ _ ⟨d1', d2', c0', c1'⟩ (fun hHeld => ?_)
  clear hK K
  refine norm_ (a' := ?_) ?_ ?_
  rotate_left
  · show Act.put _ (some 60) _ = _
    simp only [Act.put, pA, pB, pC, pD, pE]; rfl
  refine pw_ 30 61 (bA 32 2147483647) HT_.out ?_
  refine last_ (i := 31) (N := none) (bA 32 4294967295) rfl rfl (one_of HT_.out (by kernel_rfl)) (by decide) (fun K hK => ?_)
  refine skip_ (w1 := ?_) (by rfl) rfl ?_ ?_
  rotate_left; · go_simp; rfl
  refine hK.out _ _ ?_; clear hK K
  refine done_ (done_of HT_.out (by kernel_rfl)) ?_
  clear hHeld HT_ HW_
  go_wp2
  go_end0
  obtain ⟨h1, h2, h3, h4⟩ := HE.out
  have hsw := HSW.out
  have hn := HN.out
  refine ⟨rfl, ⟨by rw [hn]; exact h1, by rw [hn, hsw]; exact h2, ⟨_, h3, upd_swap HF.out HAB.out.1 HAB.out.2⟩, HL.out.1, HL.out.2.1, HRK.out⟩, by rw [hn]; exact h4⟩

end Go.Proofs.YtgihncjllelonaaGreat.Hf

/- heap.Heap[int, float32]: up. -/
namespace Go.Proofs.YtgihncjllelonaaGreat.Hf
open Go Go.RowKit Go.Proofs.YtgihncjllelonaaGreat.Mem Go.Proofs.YtgihncjllelonaaGreat.Hn Go.Proofs.YtgihncjllelonaaGreatW.PrintWords Go.Proofs.YtgihncjllelonaaGreatW.PrintLast
attribute [local go_sem ↓] Go.wp_at_zero Go.wp_at_succ
attribute [local go_sem] Go.Proofs.YtgihncjllelonaaGreat.Wt.run_store_float
set_option linter.unusedSimpArgs false
set_option linter.unusedVariables false

def UpRel (w : World) (base hb mb : Nat) (iv : Value) (came : Int) (R : List Itm) (k : Nat) (v : Value) (w' : World) : Prop :=
  ∃ its i, upS k its i = some R ∧ its.length ≤ 1000000 ∧ v = .int .i64 ((i : Nat) : Int) ∧ Hp w' base hb mb iv its came ∧ HK hb mb iv w w'

set_option maxHeartbeats 4000000 in
set_option maxRecDepth 100000 in
theorem up_calls (w : World) (base hb mb i k : Nat) (iv : Value) (its R : List Itm) (came : Int) (h : Hp w base hb mb iv its came) (hl : its.length ≤ 1000000) (hR : upS k its i = some R) :
    Calls Tryz.prog 106 #[.pointer (some ⟨hb, 0, none⟩), .int .i64 (i : Int)] w fun e w' => e = .returned (.tuple #[]) ∧ Hp w' base hb mb iv R came ∧ HK hb mb iv w w' := by
  have HS := Lib.hid (And.intro hR (And.intro hl h))
  clear hR hl h
  go_enter Tryz.func106, Tryz.ntmps106
  go_wp2_with fail
  go_loopg [1] k (fun kq v1 w' => Hid (UpRel w base hb mb iv came R kq v1 w'))
  case atStart => exact Lib.hid ⟨its, i, HS.out.1, HS.out.2.1, rfl, HS.out.2.2, HK.refl _ _ _ _⟩
  case round =>
    clear HS
    obtain ⟨its, i, hR, hl, rfl, hp, hk⟩ := hrel.out
    clear hrel
    cases gk with
    | zero => simp [upS] at hR
    | succ k1 =>
      rw [upS] at hR
      by_cases hi : i < its.length
      · rw [if_pos hi] at hR
        by_cases h0 : 0 < i
        · rw [if_pos h0] at hR
          obtain ⟨a, ha⟩ : ∃ a, its[i]? = some a := ⟨_, List.getElem?_eq_getElem hi⟩
          obtain ⟨p, hpq⟩ : ∃ p, (i - 1) / 2 = p := ⟨_, rfl⟩
          obtain ⟨b, hb'⟩ : ∃ b, its[p]? = some b := ⟨_, List.getElem?_eq_getElem (by omega)⟩
          rw [hpq, getD_of ha, getD_of hb'] at hR
          have e1 : decide ((i : Int) > 0) = true := by simpa using h0
          have e2 : wrap64 ((i : Int) - 1) = (i : Int) - 1 := by unfold wrap64; omega
          have e3 : wrap64 (((i : Int) - 1).tdiv 2) = (p : Int) := by rw [Int.tdiv_eq_ediv_of_nonneg (by omega)]; unfold wrap64; omega
          have HP := Lib.hid hp
          have HKK := Lib.hid hk
          have HR := Lib.hid hR
          have HI := Lib.hid (And.intro hi (And.intro hl (And.intro ha hb')))
          clear hp hk hR hi hl ha hb' hpq e1
          go_wp2_with fail
          refine (ahead_calls _ base hb mb i p iv its came a b HP.out HI.out.2.2.1 HI.out.2.2.2 HI.out.2.1).mono ?_
          rintro e w1 ⟨rfl, hb1⟩
          have HB1 := Lib.hid hb1
          clear hb1
          by_cases hah : aheadI a b = true
          · have HP1 := Lib.hid (HP.out.below HB1.out)
            have HK1 := Lib.hid (HKK.out.below HB1.out)
            have hR := HR.out
            rw [if_pos hah] at hR
            have HR1 := Lib.hid hR
            clear hR HR HP HKK HB1
            go_wp2_with fail
            refine (swap_calls _ base hb mb i p iv its came a b HP1.out HI.out.2.2.1 HI.out.2.2.2 HI.out.2.1).mono ?_
            rintro e w2 ⟨rfl, hp2, hk2⟩
            have HP2 := Lib.hid hp2
            have HK2 := Lib.hid (HK1.out.trans hk2)
            clear hp2 hk2 HP1 HK1
            go_wp2_with fail
            go_roundg k1
            case measure => omega
            case rel => exact Lib.hid ⟨swapL its i p, p, HR1.out, by rw [swapL_length]; exact HI.out.2.1, by rw [e3], HP2.out, HK2.out⟩
          · have hR := HR.out
            rw [if_neg hah] at hR
            obtain rfl := Option.some.inj hR
            have HP1 := Lib.hid (HP.out.below HB1.out)
            have HK1 := Lib.hid (HKK.out.below HB1.out)
            have hah : aheadI a b = false := by simpa using hah
            clear hR HR HP HKK HB1
            go_wp2_with fail
            go_end0
            exact ⟨rfl, HP1.out, HK1.out⟩
        · rw [if_neg h0] at hR
          obtain rfl := Option.some.inj hR
          have HP1 := Lib.hid hp
          have HK1 := Lib.hid hk
          clear hR hp hk hi hl
          go_wp2_with fail
          go_end0
          exact ⟨rfl, HP1.out, HK1.out⟩
      · rw [if_neg hi] at hR; cases hR

end Go.Proofs.YtgihncjllelonaaGreat.Hf
