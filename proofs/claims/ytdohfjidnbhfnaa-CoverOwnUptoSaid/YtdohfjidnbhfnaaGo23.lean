/- cover: Reaches, Size. -/
import Derived.Test.YtdohfjidnbhfnaaGo22
import Derived.Test.YtdohfjidnbhfnaaGo2
import Derived.Test.YtdohfjidnbhfnaaGo4
import Derived.Deep.RegionHeld3
namespace Go.Proofs.Ytdohfjidnbhfnaa.Cv
open Go Go.RowKit Go.Proofs.Ytdohfjidnbhfnaa.Mem Go.Proofs.Ytdohfjidnbhfnaa.Sp Go.Proofs.YtdohfjidnbhfnaaW.PrintWords Go.Proofs.YtdohfjidnbhfnaaW.PrintLast
attribute [local go_sem ↓] Go.wp_at_zero Go.wp_at_succ
set_option linter.unusedSimpArgs false
set_option linter.unusedVariables false

theorem CovS.drew {w : World} {gc gn ga n : Nat} {nd : List Nd} {al : List Int} (h : CovS w gc gn ga n nd al) : CovS w.drew gc gn ga n nd al := ⟨h.hc, h.hn, h.ha, h.ln, h.la⟩

def tb14_1.T1 : Bool × List (List Nat × List Nat) := (true, [([], []), ([], []), ([0, 1], [0, 1]), ([2, 2], [2]), ([3], [3]), ([3], [3]), ([4, 5, 3, 3], [3, 4, 5]), ([3, 6], [3, 6]), ([7, 6], [7]), ([8], [8]), ([9, 8], [8, 9]), ([10, 8], [8, 10]), ([11, 8], [8, 11]), ([8], [8]), ([12, 13, 8], [8, 12, 13]), ([14, 8], [8, 14]), ([15, 8], [8, 15]), ([8], [8]), ([17, 8], [8, 17]), ([18, 8], [8, 18]), ([19, 8], [8, 19]), ([8], [8]), ([20, 21, 8], [8, 20, 21]), ([22, 8], [8, 22]), ([23, 8], [8, 23]), ([24, 8], [8, 24]), ([16, 25, 8, 8], [8, 16, 25]), ([8, 26], [8, 26]), ([27, 26, 0, 1, 2, 3, 4, 5, 6, 7, 8, 9, 10, 11, 12, 13, 14, 15, 16, 17, 18, 19, 20, 21, 22, 23, 24, 25, 26, 27], [27])])
def tb14_1.B1 : List Nat := [0, 0, 3, 7, 15, 15, 63, 127, 255, 511, 1023, 2047, 4095, 511, 16383, 32767, 65535, 511, 131583, 393727, 918015, 511, 4063743, 8258047, 16646655, 33423871, 67108863, 134217727, 268435455]
theorem tb14_1.tab1 : rtab .any (opsOf Try.f14 1) = tb14_1.T1 := by kernel_rfl
theorem tb14_1.bits1 : waitsOk tb14_1.T1.2 tb14_1.B1 = true := by kernel_rfl
set_option maxHeartbeats 4000000 in
set_option maxRecDepth 100000 in
theorem reaches_no1 {w : World} {gc gn ga n : Nat} {nd : List Nd} {al : List Int} (h : CovS w gc gn ga n nd al) (u v : Int) (hn : n ≤ 1000000) (hu : ¬ (0 ≤ u ∧ u < n)) :
    Calls Try.prog 14 #[.pointer (some ⟨gc, 0, none⟩), .int .i64 u, .int .i64 v] w fun e w' => e = .returned (.bool false) ∧ Below w.heap.size w w' := by
  have HC := Lib.hid h
  have HU := Lib.hid hu
  clear h hu
  go_enter Try.func14, Try.ntmps14
  go_wp2_with fail
  refine start_ (n := 29) (S := fun w' => True) (ds := []) (bA 29 0) (by kernel_rfl) rfl rfl trivial (fun hHeld => ?_)
  refine with_tabW tb14_1.tab1 tb14_1.bits1 (fun HT_ HW_ => ?_)
  refine pure_ (i := 0) (N := some 7) (v := ?_) (a' := ?_) (bA 29 1) rfl rfl (any_of HT_.out (by kernel_rfl)) (fun _ _ _ h => h) (Or.inl ⟨by rfl, ?_⟩) ?_ ?_
  rotate_left; · intro w'; go_simp; with_reducible rfl
  rotate_left; · simp only [Act.put, pA, pB, pC, pD, pE]; rfl
  refine pure_ (i := 1) (N := some 8) (v := ?_) (a' := ?_) (bA 29 3) rfl rfl (any_of HT_.out (by kernel_rfl)) (fun _ _ _ h => h) (Or.inl ⟨by rfl, ?_⟩) ?_ ?_
  rotate_left; · intro w'; go_simp; with_reducible rfl
  rotate_left; · simp only [Act.put, pA, pB, pC, pD, pE]; rfl
  refine one_ (i := 2) (N := some 9) (bA 29 7) rfl rfl (one_of HT_.out (by kernel_rfl)) (by decide) (fun K hK => ?_)
  refine goes_ Try.func24 (by kernel_rfl) rfl #[.pointer (some ⟨gc, 0, none⟩), .int .i64 u] (by rfl) rfl rfl (by simp only [List.map_toArray, List.map_cons, List.map_nil]; rfl) ?_
  with_reducible refine ((is_no HC.out.drew u hn HU.out)).mono ?_
  rintro e wa ⟨rfl, rfl⟩
  refine ⟨_, rfl, ?_⟩
  refine hK.out _ _ trivial (fun hHeld => ?_)
  clear hK K
  refine norm_ (a' := ?_) ?_ ?_
  rotate_left
  · show Act.put _ (some 9) _ = _
    simp only [Act.put, pA, pB, pC, pD, pE]; rfl
  refine pure_ (i := 3) (N := some 10) (v := ?_) (a' := ?_) (bA 29 15) rfl rfl (any_of HT_.out (by kernel_rfl)) (fun _ _ _ h => h) (Or.inl ⟨by rfl, ?_⟩) ?_ ?_
  rotate_left; · intro w'; go_simp; with_reducible rfl
  rotate_left; · simp only [Act.put, pA, pB, pC, pD, pE]; rfl
  refine pure_ (i := 4) (N := some 11) (v := undef) (a' := ?_) (bA 29 31) rfl rfl (any_of HT_.out (by kernel_rfl)) (fun _ _ _ h => h) (Or.inr ⟨by rfl, rfl⟩) ?_ ?_
  rotate_left; · simp only [Act.put, pA, pB, pC, pD, pE]; rfl
  refine pure_ (i := 5) (N := some 12) (v := undef) (a' := ?_) (bA 29 63) rfl rfl (any_of HT_.out (by kernel_rfl)) (fun _ _ _ h => h) (Or.inr ⟨by rfl, rfl⟩) ?_ ?_
  rotate_left; · simp only [Act.put, pA, pB, pC, pD, pE]; rfl
  refine pure_ (i := 6) (N := some 13) (v := undef) (a' := ?_) (bA 29 127) rfl rfl (any_of HT_.out (by kernel_rfl)) (fun _ _ _ h => h) (Or.inr ⟨by rfl, rfl⟩) ?_ ?_
  rotate_left; · simp only [Act.put, pA, pB, pC, pD, pE]; rfl
  refine pure_ (i := 7) (N := some 14) (v := ?_) (a' := ?_) (bA 29 255) rfl rfl (any_of HT_.out (by kernel_rfl)) (fun _ _ _ h => h) (Or.inl ⟨by rfl, ?_⟩) ?_ ?_
  rotate_left; · intro w'; go_simp; with_reducible rfl
  rotate_left; · simp only [Act.put, pA, pB, pC, pD, pE]; rfl
  refine pure_ (i := 8) (N := some 15) (v := ?_) (a' := ?_) (bA 29 511) rfl rfl (any_of HT_.out (by kernel_rfl)) (fun _ _ _ h => h) (Or.inl ⟨by rfl, ?_⟩) ?_ ?_
  rotate_left; · intro w'; go_simp; with_reducible rfl
  rotate_left; · simp only [Act.put, pA, pB, pC, pD, pE]; rfl
  refine pure_ (i := 9) (N := some 16) (v := undef) (a' := ?_) (bA 29 1023) rfl rfl (any_of HT_.out (by kernel_rfl)) (fun _ _ _ h => h) (Or.inr ⟨by rfl, rfl⟩) ?_ ?_
  rotate_left; · simp only [Act.put, pA, pB, pC, pD, pE]; rfl
  refine pure_ (i := 10) (N := some 17) (v := undef) (a' := ?_) (bA 29 2047) rfl rfl (any_of HT_.out (by kernel_rfl)) (fun _ _ _ h => h) (Or.inr ⟨by rfl, rfl⟩) ?_ ?_
  rotate_left; · simp only [Act.put, pA, pB, pC, pD, pE]; rfl
  refine pure_ (i := 11) (N := some 18) (v := undef) (a' := ?_) (bA 29 4095) rfl rfl (any_of HT_.out (by kernel_rfl)) (fun _ _ _ h => h) (Or.inr ⟨by rfl, rfl⟩) ?_ ?_
  rotate_left; · simp only [Act.put, pA, pB, pC, pD, pE]; rfl
  refine pure_ (i := 12) (N := some 19) (v := undef) (a' := ?_) (bA 29 8191) rfl rfl (any_of HT_.out (by kernel_rfl)) (fun _ _ _ h => h) (Or.inr ⟨by rfl, rfl⟩) ?_ ?_
  rotate_left; · simp only [Act.put, pA, pB, pC, pD, pE]; rfl
  refine pure_ (i := 13) (N := some 20) (v := undef) (a' := ?_) (bA 29 16383) rfl rfl (any_of HT_.out (by kernel_rfl)) (fun _ _ _ h => h) (Or.inr ⟨by rfl, rfl⟩) ?_ ?_
  rotate_left; · simp only [Act.put, pA, pB, pC, pD, pE]; rfl
  refine pure_ (i := 14) (N := some 21) (v := undef) (a' := ?_) (bA 29 32767) rfl rfl (any_of HT_.out (by kernel_rfl)) (fun _ _ _ h => h) (Or.inr ⟨by rfl, rfl⟩) ?_ ?_
  rotate_left; · simp only [Act.put, pA, pB, pC, pD, pE]; rfl
  refine pure_ (i := 15) (N := some 22) (v := undef) (a' := ?_) (bA 29 65535) rfl rfl (any_of HT_.out (by kernel_rfl)) (fun _ _ _ h => h) (Or.inr ⟨by rfl, rfl⟩) ?_ ?_
  rotate_left; · simp only [Act.put, pA, pB, pC, pD, pE]; rfl
  refine pure_ (i := 16) (N := some 23) (v := undef) (a' := ?_) (bA 29 131071) rfl rfl (any_of HT_.out (by kernel_rfl)) (fun _ _ _ h => h) (Or.inr ⟨by rfl, rfl⟩) ?_ ?_
  rotate_left; · simp only [Act.put, pA, pB, pC, pD, pE]; rfl
  refine pure_ (i := 17) (N := some 24) (v := undef) (a' := ?_) (bA 29 262143) rfl rfl (any_of HT_.out (by kernel_rfl)) (fun _ _ _ h => h) (Or.inr ⟨by rfl, rfl⟩) ?_ ?_
  rotate_left; · simp only [Act.put, pA, pB, pC, pD, pE]; rfl
  refine pure_ (i := 18) (N := some 25) (v := undef) (a' := ?_) (bA 29 524287) rfl rfl (any_of HT_.out (by kernel_rfl)) (fun _ _ _ h => h) (Or.inr ⟨by rfl, rfl⟩) ?_ ?_
  rotate_left; · simp only [Act.put, pA, pB, pC, pD, pE]; rfl
  refine pure_ (i := 19) (N := some 26) (v := undef) (a' := ?_) (bA 29 1048575) rfl rfl (any_of HT_.out (by kernel_rfl)) (fun _ _ _ h => h) (Or.inr ⟨by rfl, rfl⟩) ?_ ?_
  rotate_left; · simp only [Act.put, pA, pB, pC, pD, pE]; rfl
  refine pure_ (i := 20) (N := some 27) (v := undef) (a' := ?_) (bA 29 2097151) rfl rfl (any_of HT_.out (by kernel_rfl)) (fun _ _ _ h => h) (Or.inr ⟨by rfl, rfl⟩) ?_ ?_
  rotate_left; · simp only [Act.put, pA, pB, pC, pD, pE]; rfl
  refine pure_ (i := 21) (N := some 28) (v := undef) (a' := ?_) (bA 29 4194303) rfl rfl (any_of HT_.out (by kernel_rfl)) (fun _ _ _ h => h) (Or.inr ⟨by rfl, rfl⟩) ?_ ?_
  rotate_left; · simp only [Act.put, pA, pB, pC, pD, pE]; rfl
  refine pure_ (i := 22) (N := some 29) (v := undef) (a' := ?_) (bA 29 8388607) rfl rfl (any_of HT_.out (by kernel_rfl)) (fun _ _ _ h => h) (Or.inr ⟨by rfl, rfl⟩) ?_ ?_
  rotate_left; · simp only [Act.put, pA, pB, pC, pD, pE]; rfl
  refine pure_ (i := 23) (N := some 30) (v := undef) (a' := ?_) (bA 29 16777215) rfl rfl (any_of HT_.out (by kernel_rfl)) (fun _ _ _ h => h) (Or.inr ⟨by rfl, rfl⟩) ?_ ?_
  rotate_left; · simp only [Act.put, pA, pB, pC, pD, pE]; rfl
  refine pure_ (i := 24) (N := some 31) (v := undef) (a' := ?_) (bA 29 33554431) rfl rfl (any_of HT_.out (by kernel_rfl)) (fun _ _ _ h => h) (Or.inr ⟨by rfl, rfl⟩) ?_ ?_
  rotate_left; · simp only [Act.put, pA, pB, pC, pD, pE]; rfl
  refine pure_ (i := 25) (N := some 32) (v := undef) (a' := ?_) (bA 29 67108863) rfl rfl (any_of HT_.out (by kernel_rfl)) (fun _ _ _ h => h) (Or.inr ⟨by rfl, rfl⟩) ?_ ?_
  rotate_left; · simp only [Act.put, pA, pB, pC, pD, pE]; rfl
  refine pure_ (i := 26) (N := some 33) (v := undef) (a' := ?_) (bA 29 134217727) rfl rfl (any_of HT_.out (by kernel_rfl)) (fun _ _ _ h => h) (Or.inr ⟨by rfl, rfl⟩) ?_ ?_
  rotate_left; · simp only [Act.put, pA, pB, pC, pD, pE]; rfl
  refine pure_ (i := 27) (N := some 34) (v := ?_) (a' := ?_) (bA 29 268435455) rfl rfl (any_of HT_.out (by kernel_rfl)) (fun _ _ _ h => h) (Or.inl ⟨by rfl, ?_⟩) ?_ ?_
  rotate_left; · intro w'; go_simp; with_reducible rfl
  rotate_left; · simp only [Act.put, pA, pB, pC, pD, pE]; rfl
  refine pure_ (i := 28) (N := some 6) (v := ?_) (a' := ?_) (bA 29 536870911) rfl rfl (any_of HT_.out (by kernel_rfl)) (fun _ _ _ h => h) (Or.inl ⟨by rfl, ?_⟩) ?_ ?_
  rotate_left; · intro w'; go_simp; with_reducible rfl
  rotate_left; · simp only [Act.put, pA, pB, pC, pD, pE]; rfl
  refine done_ (done_of HT_.out (by kernel_rfl)) ?_
  clear hHeld HT_ HW_
  go_wp2
  go_ret
  exact ⟨rfl, (Below.refl _ _).drew⟩

set_option maxHeartbeats 4000000 in
set_option maxRecDepth 100000 in
theorem reaches_no2 {w : World} {gc gn ga n : Nat} {nd : List Nd} {al : List Int} (h : CovS w gc gn ga n nd al) (u : Nat) (v : Int) (hn : n ≤ 1000000) (hu : u < n) (hv : ¬ (0 ≤ v ∧ v < n)) :
    Calls Try.prog 14 #[.pointer (some ⟨gc, 0, none⟩), .int .i64 u, .int .i64 v] w fun e w' => e = .returned (.bool false) ∧ Below w.heap.size w w' := by
  have HC := Lib.hid h
  have HU := Lib.hid hu
  have HV := Lib.hid hv
  clear h hu hv
  go_enter Try.func14, Try.ntmps14
  go_wp2_with fail
  refine start_ (n := 29) (S := fun w' => True) (ds := []) (bA 29 0) (by kernel_rfl) rfl rfl trivial (fun hHeld => ?_)
  refine with_tabW tb14_1.tab1 tb14_1.bits1 (fun HT_ HW_ => ?_)
  refine pure_ (i := 0) (N := some 7) (v := ?_) (a' := ?_) (bA 29 1) rfl rfl (any_of HT_.out (by kernel_rfl)) (fun _ _ _ h => h) (Or.inl ⟨by rfl, ?_⟩) ?_ ?_
  rotate_left; · intro w'; go_simp; with_reducible rfl
  rotate_left; · simp only [Act.put, pA, pB, pC, pD, pE]; rfl
  refine pure_ (i := 1) (N := some 8) (v := ?_) (a' := ?_) (bA 29 3) rfl rfl (any_of HT_.out (by kernel_rfl)) (fun _ _ _ h => h) (Or.inl ⟨by rfl, ?_⟩) ?_ ?_
  rotate_left; · intro w'; go_simp; with_reducible rfl
  rotate_left; · simp only [Act.put, pA, pB, pC, pD, pE]; rfl
  refine one_ (i := 2) (N := some 9) (bA 29 7) rfl rfl (one_of HT_.out (by kernel_rfl)) (by decide) (fun K hK => ?_)
  refine goes_ Try.func24 (by kernel_rfl) rfl #[.pointer (some ⟨gc, 0, none⟩), .int .i64 (u : Int)] (by rfl) rfl rfl (by simp only [List.map_toArray, List.map_cons, List.map_nil]; rfl) ?_
  with_reducible refine ((is_yes HC.out.drew u hn HU.out)).mono ?_
  rintro e wa ⟨rfl, rfl⟩
  refine ⟨_, rfl, ?_⟩
  refine hK.out _ _ trivial (fun hHeld => ?_)
  clear hK K
  refine norm_ (a' := ?_) ?_ ?_
  rotate_left
  · show Act.put _ (some 9) _ = _
    simp only [Act.put, pA, pB, pC, pD, pE]; rfl
  refine pure_ (i := 3) (N := some 10) (v := ?_) (a' := ?_) (bA 29 15) rfl rfl (any_of HT_.out (by kernel_rfl)) (fun _ _ _ h => h) (Or.inl ⟨by rfl, ?_⟩) ?_ ?_
  rotate_left; · intro w'; go_simp; with_reducible rfl
  rotate_left; · simp only [Act.put, pA, pB, pC, pD, pE]; rfl
  refine pure_ (i := 4) (N := some 11) (v := ?_) (a' := ?_) (bA 29 31) rfl rfl (any_of HT_.out (by kernel_rfl)) (fun _ _ _ h => h) (Or.inl ⟨by rfl, ?_⟩) ?_ ?_
  rotate_left; · intro w'; go_simp; with_reducible rfl
  rotate_left; · simp only [Act.put, pA, pB, pC, pD, pE]; rfl
  refine pure_ (i := 5) (N := some 12) (v := ?_) (a' := ?_) (bA 29 63) rfl rfl (any_of HT_.out (by kernel_rfl)) (fun _ _ _ h => h) (Or.inl ⟨by rfl, ?_⟩) ?_ ?_
  rotate_left; · intro w'; go_simp; with_reducible rfl
  rotate_left; · simp only [Act.put, pA, pB, pC, pD, pE]; rfl
  refine one_ (i := 6) (N := some 13) (bA 29 127) rfl rfl (one_of HT_.out (by kernel_rfl)) (by decide) (fun K hK => ?_)
  refine goes_ Try.func24 (by kernel_rfl) rfl #[.pointer (some ⟨gc, 0, none⟩), .int .i64 v] (by rfl) rfl rfl (by simp only [List.map_toArray, List.map_cons, List.map_nil]; rfl) ?_
  with_reducible refine ((is_no HC.out.drew v hn HV.out)).mono ?_
  rintro e wa ⟨rfl, rfl⟩
  refine ⟨_, rfl, ?_⟩
  refine hK.out _ _ trivial (fun hHeld => ?_)
  clear hK K
  refine norm_ (a' := ?_) ?_ ?_
  rotate_left
  · show Act.put _ (some 13) _ = _
    simp only [Act.put, pA, pB, pC, pD, pE]; rfl
  refine pure_ (i := 7) (N := some 14) (v := ?_) (a' := ?_) (bA 29 255) rfl rfl (any_of HT_.out (by kernel_rfl)) (fun _ _ _ h => h) (Or.inl ⟨by rfl, ?_⟩) ?_ ?_
  rotate_left; · intro w'; go_simp; with_reducible rfl
  rotate_left; · simp only [Act.put, pA, pB, pC, pD, pE]; rfl
  refine pure_ (i := 8) (N := some 15) (v := ?_) (a' := ?_) (bA 29 511) rfl rfl (any_of HT_.out (by kernel_rfl)) (fun _ _ _ h => h) (Or.inl ⟨by rfl, ?_⟩) ?_ ?_
  rotate_left; · intro w'; go_simp; with_reducible rfl
  rotate_left; · simp only [Act.put, pA, pB, pC, pD, pE]; rfl
  refine pure_ (i := 9) (N := some 16) (v := undef) (a' := ?_) (bA 29 1023) rfl rfl (any_of HT_.out (by kernel_rfl)) (fun _ _ _ h => h) (Or.inr ⟨by rfl, rfl⟩) ?_ ?_
  rotate_left; · simp only [Act.put, pA, pB, pC, pD, pE]; rfl
  refine pure_ (i := 10) (N := some 17) (v := undef) (a' := ?_) (bA 29 2047) rfl rfl (any_of HT_.out (by kernel_rfl)) (fun _ _ _ h => h) (Or.inr ⟨by rfl, rfl⟩) ?_ ?_
  rotate_left; · simp only [Act.put, pA, pB, pC, pD, pE]; rfl
  refine pure_ (i := 11) (N := some 18) (v := undef) (a' := ?_) (bA 29 4095) rfl rfl (any_of HT_.out (by kernel_rfl)) (fun _ _ _ h => h) (Or.inr ⟨by rfl, rfl⟩) ?_ ?_
  rotate_left; · simp only [Act.put, pA, pB, pC, pD, pE]; rfl
  refine pure_ (i := 12) (N := some 19) (v := undef) (a' := ?_) (bA 29 8191) rfl rfl (any_of HT_.out (by kernel_rfl)) (fun _ _ _ h => h) (Or.inr ⟨by rfl, rfl⟩) ?_ ?_
  rotate_left; · simp only [Act.put, pA, pB, pC, pD, pE]; rfl
  refine pure_ (i := 13) (N := some 20) (v := undef) (a' := ?_) (bA 29 16383) rfl rfl (any_of HT_.out (by kernel_rfl)) (fun _ _ _ h => h) (Or.inr ⟨by rfl, rfl⟩) ?_ ?_
  rotate_left; · simp only [Act.put, pA, pB, pC, pD, pE]; rfl
  refine pure_ (i := 14) (N := some 21) (v := undef) (a' := ?_) (bA 29 32767) rfl rfl (any_of HT_.out (by kernel_rfl)) (fun _ _ _ h => h) (Or.inr ⟨by rfl, rfl⟩) ?_ ?_
  rotate_left; · simp only [Act.put, pA, pB, pC, pD, pE]; rfl
  refine pure_ (i := 15) (N := some 22) (v := undef) (a' := ?_) (bA 29 65535) rfl rfl (any_of HT_.out (by kernel_rfl)) (fun _ _ _ h => h) (Or.inr ⟨by rfl, rfl⟩) ?_ ?_
  rotate_left; · simp only [Act.put, pA, pB, pC, pD, pE]; rfl
  refine pure_ (i := 16) (N := some 23) (v := undef) (a' := ?_) (bA 29 131071) rfl rfl (any_of HT_.out (by kernel_rfl)) (fun _ _ _ h => h) (Or.inr ⟨by rfl, rfl⟩) ?_ ?_
  rotate_left; · simp only [Act.put, pA, pB, pC, pD, pE]; rfl
  refine pure_ (i := 17) (N := some 24) (v := undef) (a' := ?_) (bA 29 262143) rfl rfl (any_of HT_.out (by kernel_rfl)) (fun _ _ _ h => h) (Or.inr ⟨by rfl, rfl⟩) ?_ ?_
  rotate_left; · simp only [Act.put, pA, pB, pC, pD, pE]; rfl
  refine pure_ (i := 18) (N := some 25) (v := undef) (a' := ?_) (bA 29 524287) rfl rfl (any_of HT_.out (by kernel_rfl)) (fun _ _ _ h => h) (Or.inr ⟨by rfl, rfl⟩) ?_ ?_
  rotate_left; · simp only [Act.put, pA, pB, pC, pD, pE]; rfl
  refine pure_ (i := 19) (N := some 26) (v := undef) (a' := ?_) (bA 29 1048575) rfl rfl (any_of HT_.out (by kernel_rfl)) (fun _ _ _ h => h) (Or.inr ⟨by rfl, rfl⟩) ?_ ?_
  rotate_left; · simp only [Act.put, pA, pB, pC, pD, pE]; rfl
  refine pure_ (i := 20) (N := some 27) (v := undef) (a' := ?_) (bA 29 2097151) rfl rfl (any_of HT_.out (by kernel_rfl)) (fun _ _ _ h => h) (Or.inr ⟨by rfl, rfl⟩) ?_ ?_
  rotate_left; · simp only [Act.put, pA, pB, pC, pD, pE]; rfl
  refine pure_ (i := 21) (N := some 28) (v := undef) (a' := ?_) (bA 29 4194303) rfl rfl (any_of HT_.out (by kernel_rfl)) (fun _ _ _ h => h) (Or.inr ⟨by rfl, rfl⟩) ?_ ?_
  rotate_left; · simp only [Act.put, pA, pB, pC, pD, pE]; rfl
  refine pure_ (i := 22) (N := some 29) (v := undef) (a' := ?_) (bA 29 8388607) rfl rfl (any_of HT_.out (by kernel_rfl)) (fun _ _ _ h => h) (Or.inr ⟨by rfl, rfl⟩) ?_ ?_
  rotate_left; · simp only [Act.put, pA, pB, pC, pD, pE]; rfl
  refine pure_ (i := 23) (N := some 30) (v := undef) (a' := ?_) (bA 29 16777215) rfl rfl (any_of HT_.out (by kernel_rfl)) (fun _ _ _ h => h) (Or.inr ⟨by rfl, rfl⟩) ?_ ?_
  rotate_left; · simp only [Act.put, pA, pB, pC, pD, pE]; rfl
  refine pure_ (i := 24) (N := some 31) (v := undef) (a' := ?_) (bA 29 33554431) rfl rfl (any_of HT_.out (by kernel_rfl)) (fun _ _ _ h => h) (Or.inr ⟨by rfl, rfl⟩) ?_ ?_
  rotate_left; · simp only [Act.put, pA, pB, pC, pD, pE]; rfl
  refine pure_ (i := 25) (N := some 32) (v := undef) (a' := ?_) (bA 29 67108863) rfl rfl (any_of HT_.out (by kernel_rfl)) (fun _ _ _ h => h) (Or.inr ⟨by rfl, rfl⟩) ?_ ?_
  rotate_left; · simp only [Act.put, pA, pB, pC, pD, pE]; rfl
  refine pure_ (i := 26) (N := some 33) (v := undef) (a' := ?_) (bA 29 134217727) rfl rfl (any_of HT_.out (by kernel_rfl)) (fun _ _ _ h => h) (Or.inr ⟨by rfl, rfl⟩) ?_ ?_
  rotate_left; · simp only [Act.put, pA, pB, pC, pD, pE]; rfl
  refine pure_ (i := 27) (N := some 34) (v := ?_) (a' := ?_) (bA 29 268435455) rfl rfl (any_of HT_.out (by kernel_rfl)) (fun _ _ _ h => h) (Or.inl ⟨by rfl, ?_⟩) ?_ ?_
  rotate_left; · intro w'; go_simp; with_reducible rfl
  rotate_left; · simp only [Act.put, pA, pB, pC, pD, pE]; rfl
  refine pure_ (i := 28) (N := some 6) (v := ?_) (a' := ?_) (bA 29 536870911) rfl rfl (any_of HT_.out (by kernel_rfl)) (fun _ _ _ h => h) (Or.inl ⟨by rfl, ?_⟩) ?_ ?_
  rotate_left; · intro w'; go_simp; with_reducible rfl
  rotate_left; · simp only [Act.put, pA, pB, pC, pD, pE]; rfl
  refine done_ (done_of HT_.out (by kernel_rfl)) ?_
  clear hHeld HT_ HW_
  go_wp2
  go_ret
  exact ⟨rfl, (Below.refl _ _).drew⟩

set_option maxHeartbeats 4000000 in
set_option maxRecDepth 100000 in
theorem reaches_calls {w : World} {gc gn ga n : Nat} {nd : List Nd} {al : List Int} (h : CovS w gc gn ga n nd al) (u v g : Nat) (x y : Nd) (l : List (Int × Int)) (hn : n ≤ 1000000) (hx : nd[u]? = some x) (hy : nd[v]? = some y)
    (hg : x.lab = some g) (hS : SetAt w g l) (hl : Ok l) (hp : 0 ≤ y.post ∧ y.post ≤ 1000000) :
    Calls Try.prog 14 #[.pointer (some ⟨gc, 0, none⟩), .int .i64 u, .int .i64 v] w fun e w' => e = .returned (.bool (holdsB l y.post y.post)) ∧ Below w.heap.size w w' := by
  have hu : u < n := by rw [← h.ln]; exact (List.getElem?_eq_some_iff.1 hx).1
  have hv : v < n := by rw [← h.ln]; exact (List.getElem?_eq_some_iff.1 hy).1
  have c0 := h.hc.cell 0 rfl
  have c1 := h.hn.cell _ (nds_at nd u x hx).2.2.2
  rw [hg] at c1
  have c2 := h.hn.cell _ (nds_at nd v y hy).2.1
  obtain ⟨p1, p2⟩ := hp
  have i0 : (0 : Int) ≤ (u : Int) := by omega
  have i1 : (u : Int) < (n : Int) := by omega
  have i2 : (n : Int) ≤ 1000000 := by omega
  have j0 : (0 : Int) ≤ (v : Int) := by omega
  have j1 : (v : Int) < (n : Int) := by omega
  have HC := Lib.hid h
  have HU := Lib.hid hu
  have HV := Lib.hid hv
  have e32 : wrap32 y.post = y.post := by unfold wrap32; omega
  have hh : Calls Try.prog 29 #[.pointer (some ⟨g, 0, none⟩), .int .i32 (wrap32 y.post)] w.drew fun e w' => e = .returned (.bool (holdsB l y.post y.post)) ∧ Below w.heap.size w.drew w' := by
    rw [e32]
    exact has_calls w.drew g y.post l hS hl
  have HH := Lib.hid hh
  clear hh e32; clear h hu hv hx hy hg hS hl
  unfold labV at c1
  go_enter Try.func14, Try.ntmps14
  go_wp2_with fail
  refine start_ (n := 29) (S := fun w' => w'.cell? ⟨gc, 0, none⟩ = some (.slice (some ⟨gn, 0, none⟩) n n) ∧ w'.cell? ⟨gn, u * 4 + 3, none⟩ = some (.pointer (some ⟨g, 0, none⟩)) ∧ w'.cell? ⟨gn, v * 4 + 1, none⟩ = some (.int .i64 y.post)) (ds := [26]) (bA 29 0) (by kernel_rfl) rfl rfl ⟨c0, c1, c2⟩ (fun hHeld => ?_)
  refine with_tabW tb14_1.tab1 tb14_1.bits1 (fun HT_ HW_ => ?_)
  refine pure_ (i := 0) (N := some 7) (v := ?_) (a' := ?_) (bA 29 1) rfl rfl (any_of HT_.out (by kernel_rfl)) (fun _ _ _ h => h) (Or.inl ⟨by rfl, ?_⟩) ?_ ?_
  rotate_left; · intro w'; go_simp; with_reducible rfl
  rotate_left; · simp only [Act.put, pA, pB, pC, pD, pE]; rfl
  refine pure_ (i := 1) (N := some 8) (v := ?_) (a' := ?_) (bA 29 3) rfl rfl (any_of HT_.out (by kernel_rfl)) (fun _ _ _ h => h) (Or.inl ⟨by rfl, ?_⟩) ?_ ?_
  rotate_left; · intro w'; go_simp; with_reducible rfl
  rotate_left; · simp only [Act.put, pA, pB, pC, pD, pE]; rfl
  refine one_ (i := 2) (N := some 9) (bA 29 7) rfl rfl (one_of HT_.out (by kernel_rfl)) (by decide) (fun K hK => ?_)
  refine goes_ Try.func24 (by kernel_rfl) rfl #[.pointer (some ⟨gc, 0, none⟩), .int .i64 (u : Int)] (by rfl) rfl rfl (by simp only [List.map_toArray, List.map_cons, List.map_nil]; rfl) ?_
  with_reducible refine ((is_yes HC.out.drew u hn HU.out)).mono ?_
  rintro e wa ⟨rfl, rfl⟩
  refine ⟨_, rfl, ?_⟩
  refine hK.out _ _ ⟨(show (w.drew).cell? _ = _ from c0), (show (w.drew).cell? _ = _ from c1), (show (w.drew).cell? _ = _ from c2)⟩ (fun hHeld => ?_)
  clear hK K
  refine norm_ (a' := ?_) ?_ ?_
  rotate_left
  · show Act.put _ (some 9) _ = _
    simp only [Act.put, pA, pB, pC, pD, pE]; rfl
  refine pure_ (i := 3) (N := some 10) (v := ?_) (a' := ?_) (bA 29 15) rfl rfl (any_of HT_.out (by kernel_rfl)) (fun _ _ _ h => h) (Or.inl ⟨by rfl, ?_⟩) ?_ ?_
  rotate_left; · intro w'; go_simp; with_reducible rfl
  rotate_left; · simp only [Act.put, pA, pB, pC, pD, pE]; rfl
  refine pure_ (i := 4) (N := some 11) (v := ?_) (a' := ?_) (bA 29 31) rfl rfl (any_of HT_.out (by kernel_rfl)) (fun _ _ _ h => h) (Or.inl ⟨by rfl, ?_⟩) ?_ ?_
  rotate_left; · intro w'; go_simp; with_reducible rfl
  rotate_left; · simp only [Act.put, pA, pB, pC, pD, pE]; rfl
  refine pure_ (i := 5) (N := some 12) (v := ?_) (a' := ?_) (bA 29 63) rfl rfl (any_of HT_.out (by kernel_rfl)) (fun _ _ _ h => h) (Or.inl ⟨by rfl, ?_⟩) ?_ ?_
  rotate_left; · intro w'; go_simp; with_reducible rfl
  rotate_left; · simp only [Act.put, pA, pB, pC, pD, pE]; rfl
  refine one_ (i := 6) (N := some 13) (bA 29 127) rfl rfl (one_of HT_.out (by kernel_rfl)) (by decide) (fun K hK => ?_)
  refine goes_ Try.func24 (by kernel_rfl) rfl #[.pointer (some ⟨gc, 0, none⟩), .int .i64 (v : Int)] (by rfl) rfl rfl (by simp only [List.map_toArray, List.map_cons, List.map_nil]; rfl) ?_
  with_reducible refine ((is_yes HC.out.drew v hn HV.out)).mono ?_
  rintro e wa ⟨rfl, rfl⟩
  refine ⟨_, rfl, ?_⟩
  refine hK.out _ _ ⟨(show (w.drew).cell? _ = _ from c0), (show (w.drew).cell? _ = _ from c1), (show (w.drew).cell? _ = _ from c2)⟩ (fun hHeld => ?_)
  clear hK K
  refine norm_ (a' := ?_) ?_ ?_
  rotate_left
  · show Act.put _ (some 13) _ = _
    simp only [Act.put, pA, pB, pC, pD, pE]; rfl
  refine pure_ (i := 7) (N := some 14) (v := ?_) (a' := ?_) (bA 29 255) rfl rfl (any_of HT_.out (by kernel_rfl)) (fun _ _ _ h => h) (Or.inl ⟨by rfl, ?_⟩) ?_ ?_
  rotate_left; · intro w'; go_simp; with_reducible rfl
  rotate_left; · simp only [Act.put, pA, pB, pC, pD, pE]; rfl
  refine pure_ (i := 8) (N := some 15) (v := ?_) (a' := ?_) (bA 29 511) rfl rfl (any_of HT_.out (by kernel_rfl)) (fun _ _ _ h => h) (Or.inl ⟨by rfl, ?_⟩) ?_ ?_
  rotate_left; · intro w'; go_simp; with_reducible rfl
  rotate_left; · simp only [Act.put, pA, pB, pC, pD, pE]; rfl
  refine pure_ (i := 9) (N := some 16) (v := ?_) (a' := ?_) (bA 29 1023) rfl rfl (any_of HT_.out (by kernel_rfl)) (fun _ _ _ h => h) (Or.inl ⟨by rfl, ?_⟩) ?_ ?_
  rotate_left; · intro w'; go_simp; with_reducible rfl
  rotate_left; · simp only [Act.put, pA, pB, pC, pD, pE]; rfl
  refine pure_ (i := 10) (N := some 17) (v := ?_) (a' := ?_) (bA 29 2047) rfl rfl (any_of HT_.out (by kernel_rfl)) (fun _ _ _ h => h) (Or.inl ⟨by rfl, ?_⟩) ?_ ?_
  rotate_left; · intro w'; go_simp; with_reducible rfl
  rotate_left; · simp only [Act.put, pA, pB, pC, pD, pE]; rfl
  refine pure_ (i := 11) (N := some 18) (v := ?_) (a' := ?_) (bA 29 4095) rfl rfl (any_of HT_.out (by kernel_rfl)) (fun _ _ _ h => h) (Or.inl ⟨by rfl, ?_⟩) ?_ ?_
  rotate_left; · intro w'; go_simp; with_reducible rfl
  rotate_left; · simp only [Act.put, pA, pB, pC, pD, pE]; rfl
  refine pure_ (i := 13) (N := some 20) (v := ?_) (a' := ?_) (bA 29 12287) rfl rfl (any_of HT_.out (by kernel_rfl)) (fun _ _ _ h => h) (Or.inl ⟨by rfl, ?_⟩) ?_ ?_
  rotate_left; · intro w'; go_simp; with_reducible rfl
  rotate_left; · simp only [Act.put, pA, pB, pC, pD, pE]; rfl
  refine pure_ (i := 17) (N := some 24) (v := ?_) (a' := ?_) (bA 29 143359) rfl rfl (any_of HT_.out (by kernel_rfl)) (fun _ _ _ h => h) (Or.inl ⟨by rfl, ?_⟩) ?_ ?_
  rotate_left; · intro w'; go_simp; with_reducible rfl
  rotate_left; · simp only [Act.put, pA, pB, pC, pD, pE]; rfl
  refine pure_ (i := 18) (N := some 25) (v := ?_) (a' := ?_) (bA 29 405503) rfl rfl (any_of HT_.out (by kernel_rfl)) (fun _ _ _ h => h) (Or.inl ⟨by rfl, ?_⟩) ?_ ?_
  rotate_left; · intro w'; go_simp; with_reducible rfl
  rotate_left; · simp only [Act.put, pA, pB, pC, pD, pE]; rfl
  refine pure_ (i := 19) (N := some 26) (v := ?_) (a' := ?_) (bA 29 929791) rfl rfl (any_of HT_.out (by kernel_rfl)) (fun _ _ _ h => h) (Or.inl ⟨by rfl, ?_⟩) ?_ ?_
  rotate_left; · intro w'; go_simp; with_reducible rfl
  rotate_left; · simp only [Act.put, pA, pB, pC, pD, pE]; rfl
  refine pure_ (i := 21) (N := some 28) (v := ?_) (a' := ?_) (bA 29 3026943) rfl rfl (any_of HT_.out (by kernel_rfl)) (fun _ _ _ h => h) (Or.inl ⟨by rfl, ?_⟩) ?_ ?_
  rotate_left; · intro w'; go_simp; with_reducible rfl
  rotate_left; · simp only [Act.put, pA, pB, pC, pD, pE]; rfl
  refine take_ (i := 12) (N := some 19) (v := ?_) (a' := ?_) (bA 29 3031039) rfl rfl (take_ofW HT_.out HW_.out (by kernel_rfl)) (fun _ _ _ h => h) (Or.inl ⟨by rfl, ?_⟩) hHeld ?_ ?_
  rotate_left
  · rintro w' ⟨s0, s1, s2⟩
    go_simp; with_reducible rfl
  rotate_left; · simp only [Act.put, pA, pB, pC, pD, pE]; rfl
  refine pure_ (i := 14) (N := some 21) (v := ?_) (a' := ?_) (bA 29 3047423) rfl rfl (any_of HT_.out (by kernel_rfl)) (fun _ _ _ h => h) (Or.inl ⟨by rfl, ?_⟩) ?_ ?_
  rotate_left; · intro w'; go_simp; with_reducible rfl
  rotate_left; · simp only [Act.put, pA, pB, pC, pD, pE]; rfl
  refine pure_ (i := 15) (N := some 22) (v := ?_) (a' := ?_) (bA 29 3080191) rfl rfl (any_of HT_.out (by kernel_rfl)) (fun _ _ _ h => h) (Or.inl ⟨by rfl, ?_⟩) ?_ ?_
  rotate_left; · intro w'; go_simp; with_reducible rfl
  rotate_left; · simp only [Act.put, pA, pB, pC, pD, pE]; rfl
  refine take_ (i := 16) (N := some 23) (v := ?_) (a' := ?_) (bA 29 3145727) rfl rfl (take_ofW HT_.out HW_.out (by kernel_rfl)) (fun _ _ _ h => h) (Or.inl ⟨by rfl, ?_⟩) hHeld ?_ ?_
  rotate_left
  · rintro w' ⟨s0, s1, s2⟩
    go_simp; with_reducible rfl
  rotate_left; · simp only [Act.put, pA, pB, pC, pD, pE]; rfl
  refine take_ (i := 20) (N := some 27) (v := ?_) (a' := ?_) (bA 29 4194303) rfl rfl (take_ofW HT_.out HW_.out (by kernel_rfl)) (fun _ _ _ h => h) (Or.inl ⟨by rfl, ?_⟩) hHeld ?_ ?_
  rotate_left
  · rintro w' ⟨s0, s1, s2⟩
    go_simp; with_reducible rfl
  rotate_left; · simp only [Act.put, pA, pB, pC, pD, pE]; rfl
  refine pure_ (i := 22) (N := some 29) (v := ?_) (a' := ?_) (bA 29 8388607) rfl rfl (any_of HT_.out (by kernel_rfl)) (fun _ _ _ h => h) (Or.inl ⟨by rfl, ?_⟩) ?_ ?_
  rotate_left; · intro w'; go_simp; with_reducible rfl
  rotate_left; · simp only [Act.put, pA, pB, pC, pD, pE]; rfl
  refine pure_ (i := 23) (N := some 30) (v := ?_) (a' := ?_) (bA 29 16777215) rfl rfl (any_of HT_.out (by kernel_rfl)) (fun _ _ _ h => h) (Or.inl ⟨by rfl, ?_⟩) ?_ ?_
  rotate_left; · intro w'; go_simp; with_reducible rfl
  rotate_left; · simp only [Act.put, pA, pB, pC, pD, pE]; rfl
  refine take_ (i := 24) (N := some 31) (v := ?_) (a' := ?_) (bA 29 33554431) rfl rfl (take_ofW HT_.out HW_.out (by kernel_rfl)) (fun _ _ _ h => h) (Or.inl ⟨by rfl, ?_⟩) hHeld ?_ ?_
  rotate_left
  · rintro w' ⟨s0, s1, s2⟩
    go_simp; with_reducible rfl
  rotate_left; · simp only [Act.put, pA, pB, pC, pD, pE]; rfl
  refine pure_ (i := 25) (N := some 32) (v := ?_) (a' := ?_) (bA 29 67108863) rfl rfl (any_of HT_.out (by kernel_rfl)) (fun _ _ _ h => h) (Or.inl ⟨by rfl, ?_⟩) ?_ ?_
  rotate_left; · intro w'; go_simp; with_reducible rfl
  rotate_left; · simp only [Act.put, pA, pB, pC, pD, pE]; rfl
  refine last_ (i := 26) (N := some 33) (bA 29 134217727) rfl rfl (one_of HT_.out (by kernel_rfl)) (by decide) (fun K hK => ?_)
  refine goes_ Try.func29 (by kernel_rfl) rfl #[.pointer (some ⟨g, 0, none⟩), .int .i32 (wrap32 y.post)] (by rfl) rfl rfl (by simp only [List.map_toArray, List.map_cons, List.map_nil]; rfl) ?_
  with_reducible refine (HH.out).mono ?_
  rintro e wa ⟨rfl, hba⟩
  refine ⟨_, rfl, ?_⟩
  refine hK.out _ _ ?_; clear hK K
  refine norm_ (a' := ?_) ?_ ?_
  rotate_left
  · show Act.put _ (some 33) _ = _
    simp only [Act.put, pA, pB, pC, pD, pE]; rfl
  refine pure_ (i := 27) (N := some 34) (v := ?_) (a' := ?_) (bA 29 268435455) rfl rfl (any_of HT_.out (by kernel_rfl)) (fun _ _ _ h => h) (Or.inl ⟨by rfl, ?_⟩) ?_ ?_
  rotate_left; · intro w'; go_simp; with_reducible rfl
  rotate_left; · simp only [Act.put, pA, pB, pC, pD, pE]; rfl
  refine pure_ (i := 28) (N := some 6) (v := ?_) (a' := ?_) (bA 29 536870911) rfl rfl (any_of HT_.out (by kernel_rfl)) (fun _ _ _ h => h) (Or.inl ⟨by rfl, ?_⟩) ?_ ?_
  rotate_left; · intro w'; go_simp; with_reducible rfl
  rotate_left; · simp only [Act.put, pA, pB, pC, pD, pE]; rfl
  refine done_ (done_of HT_.out (by kernel_rfl)) ?_
  clear hHeld HT_ HW_
  go_wp2
  go_ret
  exact ⟨rfl, (Below.refl _ _).drew.trans hba⟩

set_option maxHeartbeats 4000000 in
set_option maxRecDepth 100000 in
theorem size_calls {w : World} {gc gn ga n : Nat} {nd : List Nd} {al : List Int} (h : CovS w gc gn ga n nd al) (L : List (List (Int × Int))) (hn : n ≤ 1000) (hL : L.length = n)
    (hS : ∀ (v : Nat) (x : Nd) (l : List (Int × Int)), nd[v]? = some x → L[v]? = some l → ∃ g, x.lab = some g ∧ SetAt w g l) (hm : ∀ l ∈ L, l.length ≤ 1000) :
    Calls Try.prog 23 #[.pointer (some ⟨gc, 0, none⟩)] w fun e w' => e = .returned (.int .i64 (((L.map List.length).sum : Nat) : Int)) ∧ Below w.heap.size w w' := by
  obtain ⟨R, hR⟩ : ∃ R, (L.map List.length).sum = R := ⟨_, rfl⟩
  rw [hR]
  obtain ⟨ls, hls⟩ : ∃ ls, L.map List.length = ls := ⟨_, rfl⟩
  rw [hls] at hR
  have hlsl : ls.length = n := by rw [← hls, List.length_map]; exact hL
  have hlm : ∀ x ∈ ls, x ≤ 1000 := by
    intro x hx
    rw [← hls] at hx
    obtain ⟨l, h1, rfl⟩ := List.mem_map.1 hx
    exact hm l h1
  have hsum : ∀ i, (ls.take i).sum ≤ i * 1000 := by
    intro i
    induction i with
    | zero => simp
    | succ i ih =>
      rcases Nat.lt_or_ge i ls.length with hi | hi
      · rw [List.take_add_one, List.getElem?_eq_getElem hi, List.sum_append]
        have := hlm _ (List.getElem_mem hi)
        have e : (some ls[i]).toList.sum = ls[i] := by simp
        omega
      · rw [List.take_of_length_le (by omega)]
        rw [List.take_of_length_le hi] at ih
        omega
  have c0 := h.hc.cell 0 rfl
  have HC := Lib.hid h
  have HLS := Lib.hid (And.intro hls hlsl)
  have HX := Lib.hid (And.intro hL (And.intro hS (And.intro hR hsum)))
  clear h hS hm hL hR hsum hlm hls hlsl
  go_enter Try.func23, Try.ntmps23
  go_wp2_with fail
  go_loopg [3, 11] n (fun kq v3 v11 w' => ∃ i s : Nat, v3 = .int .i64 (s : Int) ∧ v11 = .int .i64 (i : Int) ∧ Hid (i + kq = n ∧ (ls.take i).sum = s ∧ Below w.heap.size w w'))
  case atStart => exact ⟨0, 0, rfl, rfl, Lib.hid ⟨by omega, by simp, Below.refl _ _⟩⟩
  case round =>
    obtain ⟨i, s, rfl, rfl, hI⟩ := hrel
    obtain ⟨hik, hs, hb⟩ := hI.out
    clear hI c0
    have hs2 := HX.out.2.2.2 i
    by_cases hi : i < n
    · obtain ⟨k1, rfl⟩ : ∃ k1, gk = k1 + 1 := ⟨gk - 1, by omega⟩
      obtain ⟨x, hx⟩ : ∃ x, nd[i]? = some x := ⟨_, List.getElem?_eq_getElem (by rw [HC.out.ln]; exact hi)⟩
      obtain ⟨l, hl⟩ : ∃ l, L[i]? = some l := ⟨_, List.getElem?_eq_getElem (by rw [HX.out.1]; exact hi)⟩
      obtain ⟨g, hg, hSg⟩ := HX.out.2.1 i x l hx hl
      have hC := HC.out.below hb
      obtain ⟨q1, q2, q3, q4⟩ := nds_at nd i x hx
      have c1 := hC.hn.cell _ q1
      have c2 := hC.hn.cell _ q2
      have c3 := hC.hn.cell _ q3
      have c4 := hC.hn.cell _ q4
      rw [hg] at c4
      unfold labV at c4
      have l1 := hC.hn.lt
      have n1 := Nat.ne_of_lt l1
      have hsn : (ls.take (i + 1)).sum = s + l.length := by rw [List.take_add_one, ← HLS.out.1, List.getElem?_map, hl, HLS.out.1, List.sum_append, hs]; simp
      have hs3 := HX.out.2.2.2 (i + 1)
      have i0 : (0 : Int) ≤ (i : Int) := by omega
      have i1 : (i : Int) < (n : Int) := by omega
      have i2 : (n : Int) ≤ 1000 := by omega
      have s0 : (0 : Int) ≤ (s : Int) := by omega
      have s1 : (0 : Int) ≤ (l.length : Int) := by omega
      have s2 : (s : Int) + (l.length : Int) ≤ 1001000 := by omega
      have HP := Lib.hid (And.intro hik (And.intro hsn (And.intro hb (hSg.below hb))))
      clear hik hs hb hx hl hg hSg hC q1 q2 q3 q4 hsn hs2 hs3 hi
      go_wp2_with fail
      refine (Sp.len_calls _ g l (HP.out.2.2.2.alloc _)).mono ?_
      rintro e wa ⟨rfl, rfl⟩
      go_wp2_with fail
      go_roundg k1
      case measure => omega
      case rel => exact ⟨i + 1, s + l.length, by go_num, by go_num, Lib.hid ⟨by have := HP.out.1; omega, HP.out.2.1, HP.out.2.2.1.alloc HP.out.2.2.1.size _⟩⟩
    · rw [List.take_of_length_le (by have := HLS.out.2; omega)] at hs
      have e1 : s = R := hs.symm.trans HX.out.2.2.1
      subst e1
      have i0 : (n : Int) ≤ (i : Int) := by omega
      have HB := Lib.hid hb
      clear hb hs hik hi hs2
      go_wp2_with fail
      go_ret
      exact ⟨rfl, HB.out⟩

end Go.Proofs.Ytdohfjidnbhfnaa.Cv
