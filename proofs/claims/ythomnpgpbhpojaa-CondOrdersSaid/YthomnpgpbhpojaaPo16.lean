/- (*search).enter. -/
import Derived.Test.YthomnpgpbhpojaaPo5
import Derived.Test.YthomnpgpbhpojaaPo15
import Derived.Test.YthomnpgpbhpojaaPo2
import Derived.Test.YthomnpgpbhpojaaPo4
import Derived.Deep.LoopGhost
namespace Go.Proofs.Ythomnpgpbhpojaa.Scc
open Go Go.RowKit Go.Proofs.Ythomnpgpbhpojaa.Mem Go.Proofs.Ythomnpgpbhpojaa.Tj Go.Proofs.YthomnpgpbhpojaaW.PrintWords Go.Proofs.YthomnpgpbhpojaaW.PrintLast
attribute [local go_sem ↓] Go.wp_at_zero Go.wp_at_succ
set_option linter.unusedSimpArgs false
set_option linter.unusedVariables false

def tb100_3.T3 : Bool × List (List Nat × List Nat) := (true, [([], []), ([], []), ([1], [1]), ([2], [2]), ([3], [3]), ([], []), ([], []), ([6], [6]), ([7], [7]), ([8], [8]), ([], []), ([10], [10]), ([9, 11], [9, 11]), ([0, 0, 4, 6, 7, 8, 9, 10, 11, 12], [0]), ([13, 0, 4, 6, 7, 8, 9, 10, 11, 12], [13]), ([14, 12, 12, 0, 4, 6, 7, 8, 9, 10, 11, 12], [12, 14]), ([4, 5, 0, 1, 2, 3, 4, 5, 6, 7, 8, 9, 10, 11, 12, 13, 14, 15], [4, 5]), ([16, 15, 0, 1, 2, 3, 4, 5, 6, 7, 8, 9, 10, 11, 12, 13, 14, 15], [16])])
def tb100_3.B3 : List Nat := [0, 0, 2, 6, 14, 0, 0, 64, 192, 448, 0, 1024, 4032, 8159, 16351, 32735, 65535, 131071]
theorem tb100_3.tab3 : rtab .any (opsOf Try.f100 3) = tb100_3.T3 := by kernel_rfl
theorem tb100_3.bits3 : waitsOk tb100_3.T3.2 tb100_3.B3 = true := by kernel_rfl
def EnterPost (w : World) (G base gs gg bi bl bn bc n : Nat) (S : St) (v : Nat) (w' : World) : Prop := ∃ ov', Srch w' base gs gg bi bl bn bc n ov' (enterS S v) ∧ Ext G w w'

set_option maxHeartbeats 2000000 in
set_option maxRecDepth 100000 in
theorem enter_calls (w : World) (G base gs gg bi bl bn bc n v : Nat) (ov : Value) (S : St) (hS : Srch w base gs gg bi bl bn bc n ov S) (L : Lie G base gs bi bl bn bc)
    (hv : v < n) (hn : n ≤ 1000000) (ht : S.time < 1000000) (hl : S.opn.length < 1000000) (hb : base ≤ w.heap.size) :
    Calls Try.prog 100 #[.pointer (some ⟨gs, 0, none⟩), .int .i64 v] w fun e w' => e = .returned (.agg #[.int .i64 v, .int .i64 0]) ∧ EnterPost w G base gs gg bi bl bn bc n S v w' := by
  have p0 : (0 : Int) ≤ (v : Int) := by omega
  have p1 : (v : Int) < (n : Int) := by omega
  have t0 : (0 : Int) ≤ (S.time : Int) := by omega
  have t1 : (S.time : Int) ≤ 1000000 := by omega
  have HS := Lib.hid hS
  have HL := Lib.hid L
  have HBW := Lib.hid hb
  have hs := hS.hs
  have hi := hS.hi
  have hlo := hS.hl
  have c1 := hs.cell 1 rfl
  have c2 := hs.cell 2 rfl
  have c7 := hs.cell 7 rfl
  have f7 := hs.free 7
  obtain ⟨iv, hiv⟩ : ∃ iv, S.idx[v]? = some iv := ⟨_, List.getElem?_eq_getElem (by rw [hS.hil]; exact hv)⟩
  obtain ⟨lv, hlv⟩ : ∃ lv, S.low[v]? = some lv := ⟨_, List.getElem?_eq_getElem (by rw [hS.hll]; exact hv)⟩
  obtain ⟨nv, hnv⟩ : ∃ nv, S.inn[v]? = some nv := ⟨_, List.getElem?_eq_getElem (by rw [hS.hnl]; exact hv)⟩
  have ci := hi.cell v (nats_at _ hiv)
  have fi := hi.free v
  have cl := hlo.cell v (nats_at _ hlv)
  have fl := hlo.free v
  have HNV := Lib.hid hnv
  clear hiv hlv hnv
  have n1 := L.n1
  have n2 := L.n2
  have n5 := L.n5
  have l1 := hs.lt
  have l2 := hi.lt
  have l3 := hlo.lt
  have q1 := Nat.ne_of_lt l1
  have q2 := Nat.ne_of_lt l2
  have q3 := Nat.ne_of_lt l3
  clear hs hi hlo hS L
  go_enter Try.func100, Try.ntmps100
  go_wp2
  go_region
  go_wp2
  have hS := HS.out
  have L := HL.out
  obtain ⟨rb, hrb⟩ : ∃ rb, rb = w.heap.size := ⟨_, rfl⟩
  refine gen_world (fun W => At W gs [.pointer (some ⟨gg, 0, none⟩), .slice (some ⟨bi, 0, none⟩) n n, .slice (some ⟨bl, 0, none⟩) n n, .slice (some ⟨bn, 0, none⟩) n n, ov, .slice (some ⟨bc, 0, none⟩) n n, .int .i64 (S.cnt : Int), .int .i64 ((S.time + 1 : Nat) : Int)] 126 ∧
    At W bi (nats (S.idx.set v (S.time + 1))) 3 ∧ At W bl (nats (S.low.set v (S.time + 1))) 3 ∧ At W bn (bls S.inn) 4 ∧ At W bc (nats S.comp) 3 ∧
    W.ownsRow base 3 1 ov S.opn.length (nats S.opn.reverse) ∧ Ext G w W ∧ At W w.heap.size [.int .i64 0, .int .i64 0] 137 ∧ base ≤ W.heap.size) ?_ ?_
  · refine ⟨?_, ?_, ?_, ?_, ?_, ?_, ?_, ?_, ?_⟩
    · exact (((hS.hs.put rfl).off L.n1).off L.n2).al.drew
    · exact (((hS.hi.off L.n1.symm).put (nats_set _ _ _).symm).off L.n5).al.drew
    · exact (((hS.hl.off L.n2.symm).off L.n5.symm).put (nats_set _ _ _).symm).al.drew
    · exact (((hS.hn.off L.n3.symm).off L.n6.symm).off L.n8.symm).al.drew
    · exact (((hS.hc.off L.n4.symm).off L.n7.symm).off L.n9.symm).al.drew
    · exact ((((hS.ho.setB L.b1).setB L.b2).setB L.b3).alloc _).drew
    · refine Ext.drew (Ext.alloc ?_ (by simp; have := L.a1; have := L.b1; omega) _)
      refine Ext.set (Ext.set (Ext.set (Ext.refl G w) hS.hs L.a1 (by decide) _ _) (hS.hi.off L.n1.symm) L.a2 (by decide) _ _) ((hS.hl.off L.n2.symm).off L.n5.symm) L.a3 (by decide) _ _
    · exact (At.made (by simp) rfl).drew
    · simp; omega
  clear hS L c1 c2 c7 f7 ci fi cl fl l1 l2 l3 q1 q2 q3 hb
  rintro W ⟨hs, hi, hlo, hin, hc, ho, he, hr, hb⟩
  have c3 := hs.cell 3 rfl
  have c4 := hs.cell 4 rfl
  have f4 := hs.free 4
  have cn := hin.cell v (bls_at _ HNV.out)
  have fn := hin.free v
  have c0r := hr.cell 0 rfl
  have c1r := hr.cell 1 rfl
  have f0r := hr.free 0
  have f1r := hr.free 1
  have n3 := HL.out.n3
  have l1 := hs.lt
  have l4 := hin.lt
  have q1 := Nat.ne_of_lt l1
  have q4 := Nat.ne_of_lt l4
  obtain ⟨i0, hi0, hz0, hz1, hz2⟩ := info_parts info_int
  have HO := Lib.hid ho
  have HIN := Lib.hid hin
  have HS2 := Lib.hid hs
  have HB := Lib.hid hb
  have HR := Lib.hid hr
  have HI2 := Lib.hid hi
  have HLO := Lib.hid hlo
  have HC := Lib.hid hc
  have HE := Lib.hid he
  clear hi hlo hc he ho hin hs hb hr
  refine start_ (n := 18) (S := fun w' => w'.cell? ⟨gs, 3, none⟩ = some (.slice (some ⟨bn, 0, none⟩) n n) ∧ w'.cell? ⟨gs, 4, none⟩ = some ov) (ds := [15, 17]) (bA 18 0) (by kernel_rfl) rfl rfl ⟨(HS2.out.drew.cell 3 rfl), (HS2.out.drew.cell 4 rfl)⟩ (fun hHeld => ?_)
  refine with_tabW tb100_3.tab3 tb100_3.bits3 (fun HT_ HW_ => ?_)
  refine pw_ 0 32 (bA 18 1) HT_.out ?_
  refine pw_ 1 33 (bA 18 3) HT_.out ?_
  refine pw_ 2 34 (bA 18 7) HT_.out ?_
  refine pw_ 3 35 (bA 18 15) HT_.out ?_
  refine pw_ 5 37 (bA 18 47) HT_.out ?_
  refine pw_ 6 38 (bA 18 111) HT_.out ?_
  refine pw_ 7 39 (bA 18 239) HT_.out ?_
  refine pw_ 8 40 (bA 18 495) HT_.out ?_
  refine pw_ 10 42 (bA 18 1519) HT_.out ?_
  refine tw_ 4 36 (bA 18 1535) HT_.out HW_.out hHeld (hv := by rintro w' ⟨s0, s1⟩; go_simp; with_reducible rfl) (h := ?_)
  refine tw_ 9 41 (bA 18 2047) HT_.out HW_.out hHeld (hv := by rintro w' ⟨s0, s1⟩; go_simp; with_reducible rfl) (h := ?_)
  refine one_ (i := 11) (N := some 43) (bA 18 4095) rfl rfl (one_of HT_.out (by kernel_rfl)) (by decide) (fun K hK => ?_)
  refine value_ (w1 := ?_) (v := ?_) (by rfl) rfl ?_ ?_
  rotate_left 2
  · go_simp
    constructor
    · rfl
    · rfl
  refine hK.out _ _ ⟨(HS2.out.al.drew.cell 3 rfl), (HS2.out.al.drew.cell 4 rfl)⟩ (fun hHeld => ?_)
  clear hK K
  refine norm_ (a' := ?_) ?_ ?_
  rotate_left
  · show Act.put _ (some 43) _ = _
    simp only [Act.put, pA, pB, pC, pD, pE]; rfl
  refine one_ (i := 12) (N := some 44) (bA 18 8191) rfl rfl (one_of HT_.out (by kernel_rfl)) (by decide) (fun K hK => ?_)
  refine step_append_lies _ (by rfl) (.tmp 41) (.tmp 43) 25 (by rfl) base 3 i0 (.int .i64 0) 1 8 Try.underlying25 hi0 hz0 hz1 hz2 rfl (by omega) ov S.opn.length (nats S.opn.reverse) (by rfl) ((HO.out.alloc _).drew) ⟨W.heap.size, 0, none⟩ 1 1 [.int .i64 v] (by rfl) rfl (cell_one_new _ _ _) (by simp [Value.oneCell']) (by omega) (by unfold maxLen; omega) (by omega) (by have := HB.out; simp; omega) _ rfl ?_
  intro g cap w1 hown hgrow hat hlt
  have hs1 := HS2.out.al.drew.grown hgrow (own_off HO.out HS2.out (by decide))
  have hin1 := HIN.out.al.drew.grown hgrow (own_off HO.out HIN.out (by decide))
  have hr1 := HR.out.al.drew.grown hgrow (own_off HO.out HR.out (by decide))
  have hi1 := HI2.out.al.drew.grown hgrow (own_under HO.out HL.out.b2)
  have hl1 := HLO.out.al.drew.grown hgrow (own_under HO.out HL.out.b3)
  have hc1 := HC.out.al.drew.grown hgrow (own_under HO.out HL.out.b5)
  have he1 := (HE.out.alloc (Nat.le_trans (by have := HL.out.a1; have := HL.out.b1; omega) HB.out) (.cells #[.int .i64 v] 3)).drew.grown ((HO.out.alloc _).drew) hgrow (by have := HL.out.a1; have := HL.out.b1; omega) (by have := HL.out.a1; have := HL.out.b1; have := HB.out; simp; omega)
  have HR3 := Lib.hid hr1; have HI3 := Lib.hid hi1; have HLO3 := Lib.hid hl1; have HC3 := Lib.hid hc1; have HE3 := Lib.hid he1; clear hr1 hi1 hl1 hc1 he1
  have x4 := hs1.free 4
  have e5 := hin1.cell v (bls_at _ HNV.out)
  have x5 := hin1.free v
  have HS3 := Lib.hid hs1; have HIN3 := Lib.hid hin1; have HGR := Lib.hid hgrow; have HOW := Lib.hid hown; have e40 := hs1.cell 4 rfl; clear hs1 hin1 hgrow hown hat
  refine hK.out _ _ ⟨(HS3.out.cell 3 rfl), (HS3.out.cell 4 rfl)⟩ (fun hHeld => ?_)
  clear hK K
  refine norm_ (a' := ?_) ?_ ?_
  rotate_left
  · show Act.put _ (some 44) _ = _
    simp only [Act.put, pA, pB, pC, pD, pE]; rfl
  refine pw_ 13 45 (bA 18 16383) HT_.out ?_
  refine pw_ 14 46 (bA 18 32767) HT_.out ?_
  refine last_ (i := 15) (N := none) (bA 18 65535) rfl rfl (one_of HT_.out (by kernel_rfl)) (by decide) (fun K hK => ?_)
  refine skip_ (w1 := ?_) (by rfl) rfl ?_ ?_
  rotate_left; · go_simp; rfl
  refine hK.out _ _ ?_; clear hK K
  refine pw_ 16 47 (bA 18 131071) HT_.out ?_
  refine last_ (i := 17) (N := none) (bA 18 262143) rfl rfl (one_of HT_.out (by kernel_rfl)) (by decide) (fun K hK => ?_)
  refine skip_ (w1 := ?_) (by rfl) rfl ?_ ?_
  rotate_left; · go_simp; rfl
  refine hK.out _ _ ?_; clear hK K
  refine done_ (done_of HT_.out (by kernel_rfl)) ?_
  clear hHeld HT_ HW_
  refine gen_then (fun W2 => Srch W2 base gs gg bi bl bn bc n (.slice (some ⟨g, 0, none⟩) (S.opn.length + 1) cap) (enterS S v) ∧ Ext G w W2 ∧ At W2 w.heap.size [.int .i64 0, .int .i64 0] 137) ?_ ?_
  · have L := HL.out
    have hS := HS.out
    have ho := HOW.out
    rw [nats_snoc] at ho
    have o4 : base ≤ g := (ho.lt g rfl).1
    refine ⟨⟨(HS3.out.put rfl).off L.n3, (HI3.out.off L.n1.symm).off L.n6, (HLO3.out.off L.n2.symm).off L.n8, (HIN3.out.off L.n3.symm).put (bls_set _ _ _).symm, (HC3.out.off L.n4.symm).off L.n10.symm, ?_, ?_, ?_, ?_, ?_⟩, ?_, ?_⟩
    · have := (ho.setB L.b1 (i := 4) (u := .slice (some ⟨g, 0, none⟩) (S.opn.length + 1) cap)).setB L.b4 (i := v) (u := .bool true)
      simpa [enterS] using this
    · simpa [enterS] using hS.hil
    · simpa [enterS] using hS.hll
    · simpa [enterS] using hS.hnl
    · simpa [enterS] using hS.hcl
    · exact (HE3.out.set HS3.out L.a1 (by decide) _ _).set (HIN3.out.off L.n3.symm) L.a4 (by decide) _ _
    · exact (HR3.out.off ((HS3.out.ne HR3.out (by decide)).symm)).off ((HIN3.out.ne HR3.out (by decide)).symm)
  clear x4 e5 x5 e40 c3 c4 f4 cn fn c0r c1r f0r f1r HS3 HIN3 HGR HOW HR3 HI3 HLO3 HC3 HE3 l1 l4 q1 q4 hlt
  rintro W2 ⟨hS2, hE2, hr2⟩
  have c0r := hr2.cell 0 rfl
  have c1r := hr2.cell 1 rfl
  have f0r := hr2.free 0
  have f1r := hr2.free 1
  have HS2' := Lib.hid hS2
  have HE2' := Lib.hid hE2
  have HR2 := Lib.hid hr2
  clear hS2 hE2 hr2
  go_wp2
  have hk : base ≤ w.heap.size := HBW.out
  have ho := own_off HS2'.out.ho HR2.out (by decide)
  have hG : G ≤ w.heap.size := by have := HL.out.a1; have := HL.out.b1; omega
  refine bodyPost_ret (v := .agg #[.int .i64 v, .int .i64 0]) (by simp [results, Try.results100, go_sem, c0r, c1r]) rfl ⟨rfl, .slice (some ⟨g, 0, none⟩) (S.opn.length + 1) cap, ?_, ?_⟩
  · exact (HS2'.out.beside HL.out hk ho _).beside HL.out hk ho _
  · exact (HE2'.out.fresh (Nat.le_refl _) hG _ _).fresh (Nat.le_refl _) hG _ _
end Go.Proofs.Ythomnpgpbhpojaa.Scc

/- (*search).leave. -/
namespace Go.Proofs.Ythomnpgpbhpojaa.Scc
open Go Go.RowKit Go.Proofs.Ythomnpgpbhpojaa.Mem Go.Proofs.Ythomnpgpbhpojaa.Tj Go.Proofs.YthomnpgpbhpojaaW.PrintWords Go.Proofs.YthomnpgpbhpojaaW.PrintLast
attribute [local go_sem ↓] Go.wp_at_zero Go.wp_at_succ
set_option linter.unusedSimpArgs false
set_option linter.unusedVariables false

def tb101_0.T0 : Bool × List (List Nat × List Nat) := (true, [([], []), ([0], [0]), ([1], [1]), ([2], [2]), ([], []), ([3, 4], [3, 4]), ([5], [5]), ([], []), ([7], [7]), ([8], [8]), ([9], [9]), ([], []), ([10, 11], [10, 11]), ([12], [12]), ([6, 13], [6, 13])])
def tb101_0.B0 : List Nat := [0, 1, 3, 7, 0, 31, 63, 0, 128, 384, 896, 0, 3968, 8064, 16383]
theorem tb101_0.tab0 : rtab .any (opsOf Try.f101 0) = tb101_0.T0 := by kernel_rfl
theorem tb101_0.bits0 : waitsOk tb101_0.T0.2 tb101_0.B0 = true := by kernel_rfl
def tb101_1.T1 : Bool × List (List Nat × List Nat) := (true, [([], []), ([0], [0]), ([1], [1]), ([2], [2]), ([], []), ([4], [4]), ([5], [5]), ([6], [6]), ([7], [7]), ([8], [8]), ([3, 9], [3, 9]), ([10], [10]), ([11, 0, 1, 2, 3, 4, 5, 6, 7, 8, 9, 10, 11], [11])])
def tb101_1.B1 : List Nat := [0, 1, 3, 7, 0, 16, 48, 112, 240, 496, 1023, 2047, 4095]
theorem tb101_1.tab1 : rtab .any (opsOf Try.f101 1) = tb101_1.T1 := by kernel_rfl
theorem tb101_1.bits1 : waitsOk tb101_1.T1.2 tb101_1.B1 = true := by kernel_rfl
def tb101_2.T2 : Bool × List (List Nat × List Nat) := (true, [([], []), ([], []), ([1], [1]), ([2], [2]), ([3], [3]), ([], []), ([5], [5]), ([6], [6]), ([7], [7]), ([8], [8]), ([9], [9]), ([4, 10], [4, 10]), ([0, 0, 1, 2, 3, 4, 5, 6, 7, 8, 9, 10, 11], [0]), ([12, 0, 1, 2, 3, 4, 5, 6, 7, 8, 9, 10, 11], [12]), ([13, 11, 0, 1, 2, 3, 4, 5, 6, 7, 8, 9, 10, 11], [11, 13])])
def tb101_2.B2 : List Nat := [0, 0, 2, 6, 14, 0, 32, 96, 224, 480, 992, 2046, 4095, 8191, 16383]
theorem tb101_2.tab2 : rtab .any (opsOf Try.f101 2) = tb101_2.T2 := by kernel_rfl
theorem tb101_2.bits2 : waitsOk tb101_2.T2.2 tb101_2.B2 = true := by kernel_rfl
def tb101_3.T3 : Bool × List (List Nat × List Nat) := (true, [([], []), ([0], [0]), ([1], [1]), ([2], [2]), ([], []), ([], []), ([5], [5]), ([6], [6]), ([7], [7]), ([], []), ([], []), ([10], [10]), ([11], [11]), ([12], [12]), ([3, 4, 0, 1, 2, 3, 4, 8, 13], [3, 4]), ([14, 0, 1, 2, 3, 4, 8, 13], [14]), ([8, 9, 0, 1, 2, 3, 4, 5, 6, 7, 8, 9, 10, 11, 12, 13, 14, 15], [8, 9]), ([16, 13, 15, 0, 1, 2, 3, 4, 5, 6, 7, 8, 9, 10, 11, 12, 13, 14, 15], [13, 16])])
def tb101_3.B3 : List Nat := [0, 1, 3, 7, 0, 0, 32, 96, 224, 0, 0, 1024, 3072, 7168, 15871, 32255, 65535, 131071]
theorem tb101_3.tab3 : rtab .any (opsOf Try.f101 3) = tb101_3.T3 := by kernel_rfl
theorem tb101_3.bits3 : waitsOk tb101_3.T3.2 tb101_3.B3 = true := by kernel_rfl
set_option maxHeartbeats 2000000 in
set_option maxRecDepth 100000 in
theorem leave_no (w : World) (base gs gg bi bl bn bc n v a b : Nat) (ov : Value) (S : St) (hS : Srch w base gs gg bi bl bn bc n ov S)
    (hv : v < n) (ha : S.low[v]? = some a) (hb : S.idx[v]? = some b) (hab : a ≠ b) :
    Calls Try.prog 101 #[.pointer (some ⟨gs, 0, none⟩), .int .i64 v] w fun e w' => e = .returned (.tuple #[]) ∧ w' = w.drewN 1 := by
  have p0 : (0 : Int) ≤ (v : Int) := by omega
  have p1 : (v : Int) < (n : Int) := by omega
  have c1 := hS.hs.cell 1 rfl
  have c2 := hS.hs.cell 2 rfl
  have ci := hS.hi.cell v (nats_at _ hb)
  have cl := hS.hl.cell v (nats_at _ ha)
  have e1 : ((a : Int) == (b : Int)) = false := beq_eq_false_iff_ne.2 (by omega)
  have e2 : ((a : Int) != (b : Int)) = true := by rw [bne, e1]; rfl
  have e3 : ¬ ((a : Int) = (b : Int)) := by omega
  clear hS hab ha hb
  go_enter Try.func101, Try.ntmps101
  go_wp2
  refine start_ (n := 15) (S := fun w' => w'.cell? ⟨gs, 2, none⟩ = some (.slice (some ⟨bl, 0, none⟩) n n) ∧ w'.cell? ⟨gs, 1, none⟩ = some (.slice (some ⟨bi, 0, none⟩) n n) ∧ w'.cell? ⟨bl, v, none⟩ = some (.int .i64 (a : Int)) ∧ w'.cell? ⟨bi, v, none⟩ = some (.int .i64 (b : Int))) (ds := []) (bA 15 0) (by kernel_rfl) rfl rfl ⟨c2, c1, cl, ci⟩ (fun hHeld => ?_)
  refine with_tabW tb101_0.tab0 tb101_0.bits0 (fun HT_ HW_ => ?_)
  refine pw_ 0 5 (bA 15 1) HT_.out ?_
  refine pw_ 1 6 (bA 15 3) HT_.out ?_
  refine pw_ 2 7 (bA 15 7) HT_.out ?_
  refine pw_ 4 9 (bA 15 23) HT_.out ?_
  refine pw_ 7 12 (bA 15 151) HT_.out ?_
  refine pw_ 8 13 (bA 15 407) HT_.out ?_
  refine pw_ 9 14 (bA 15 919) HT_.out ?_
  refine pw_ 11 16 (bA 15 2967) HT_.out ?_
  refine tw_ 3 8 (bA 15 2975) HT_.out HW_.out hHeld (hv := by rintro w' ⟨s0, s1, s2, s3⟩; go_simp; with_reducible rfl) (h := ?_)
  refine pw_ 5 10 (bA 15 3007) HT_.out ?_
  refine tw_ 6 11 (bA 15 3071) HT_.out HW_.out hHeld (hv := by rintro w' ⟨s0, s1, s2, s3⟩; go_simp; with_reducible rfl) (h := ?_)
  refine tw_ 10 15 (bA 15 4095) HT_.out HW_.out hHeld (hv := by rintro w' ⟨s0, s1, s2, s3⟩; go_simp; with_reducible rfl) (h := ?_)
  refine pw_ 12 17 (bA 15 8191) HT_.out ?_
  refine tw_ 13 18 (bA 15 16383) HT_.out HW_.out hHeld (hv := by rintro w' ⟨s0, s1, s2, s3⟩; go_simp; with_reducible rfl) (h := ?_)
  refine pw_ 14 19 (bA 15 32767) HT_.out ?_
  refine done_ (done_of HT_.out (by kernel_rfl)) ?_
  clear hHeld HT_ HW_
  go_wp2
  first | go_end0 | ((try simp only [Exit.inBlock, Exit.then]); refine bodyPost_ret (results_none rfl _ _ _) rfl ?_)
  exact ⟨rfl, rfl⟩

def PopRel (w : World) (G base gs gg bi bl bn bc n v : Nat) (S : St) (R : List Nat × List Bool × List Nat) (k : Nat) (w' : World) : Prop :=
  ∃ (opn : List Nat) (inn : List Bool) (comp : List Nat) (ov : Value), opn.length = k ∧ popS v S.cnt opn inn comp = some R ∧ Srch w' base gs gg bi bl bn bc n ov { S with opn := opn, inn := inn, comp := comp } ∧ Ext G w w'

def LeavePost (w : World) (G base gs gg bi bl bn bc n : Nat) (S : St) (w' : World) : Prop := ∃ ov', Srch w' base gs gg bi bl bn bc n ov' S ∧ Ext G w w'

set_option maxHeartbeats 4000000 in
set_option maxRecDepth 100000 in
theorem leave_yes (w : World) (G base gs gg bi bl bn bc n v a : Nat) (ov : Value) (S : St) (R : List Nat × List Bool × List Nat) (hS : Srch w base gs gg bi bl bn bc n ov S) (L : Lie G base gs bi bl bn bc)
    (hv : v < n) (hn : n ≤ 1000000) (ha : S.low[v]? = some a) (hb : S.idx[v]? = some a) (hR : popS v S.cnt S.opn S.inn S.comp = some R) (hcnt : S.cnt < 1000000) (hln : S.opn.length ≤ 1000000) :
    Calls Try.prog 101 #[.pointer (some ⟨gs, 0, none⟩), .int .i64 v] w fun e w' => e = .returned (.tuple #[]) ∧ LeavePost w G base gs gg bi bl bn bc n { S with opn := R.1, inn := R.2.1, comp := R.2.2, cnt := S.cnt + 1 } w' := by
  have p0 : (0 : Int) ≤ (v : Int) := by omega
  have p1 : (v : Int) < (n : Int) := by omega
  have z0 : (0 : Int) ≤ (S.cnt : Int) := by omega
  have z1 : (S.cnt : Int) < 1000000 := by omega
  have c1 := hS.hs.cell 1 rfl
  have c2 := hS.hs.cell 2 rfl
  have ci := hS.hi.cell v (nats_at _ hb)
  have cl := hS.hl.cell v (nats_at _ ha)
  have HS := Lib.hid hS
  have HL := Lib.hid L
  have HR := Lib.hid hR
  clear hS ha hb L hR
  go_enter Try.func101, Try.ntmps101
  go_wp2
  refine start_ (n := 15) (S := fun w' => w'.cell? ⟨gs, 2, none⟩ = some (.slice (some ⟨bl, 0, none⟩) n n) ∧ w'.cell? ⟨gs, 1, none⟩ = some (.slice (some ⟨bi, 0, none⟩) n n) ∧ w'.cell? ⟨bl, v, none⟩ = some (.int .i64 (a : Int)) ∧ w'.cell? ⟨bi, v, none⟩ = some (.int .i64 (a : Int))) (ds := []) (bA 15 0) (by kernel_rfl) rfl rfl ⟨c2, c1, cl, ci⟩ (fun hHeld => ?_)
  refine with_tabW tb101_0.tab0 tb101_0.bits0 (fun HT_ HW_ => ?_)
  refine pw_ 0 5 (bA 15 1) HT_.out ?_
  refine pw_ 1 6 (bA 15 3) HT_.out ?_
  refine pw_ 2 7 (bA 15 7) HT_.out ?_
  refine pw_ 4 9 (bA 15 23) HT_.out ?_
  refine pw_ 7 12 (bA 15 151) HT_.out ?_
  refine pw_ 8 13 (bA 15 407) HT_.out ?_
  refine pw_ 9 14 (bA 15 919) HT_.out ?_
  refine pw_ 11 16 (bA 15 2967) HT_.out ?_
  refine tw_ 3 8 (bA 15 2975) HT_.out HW_.out hHeld (hv := by rintro w' ⟨s0, s1, s2, s3⟩; go_simp; with_reducible rfl) (h := ?_)
  refine pw_ 5 10 (bA 15 3007) HT_.out ?_
  refine tw_ 6 11 (bA 15 3071) HT_.out HW_.out hHeld (hv := by rintro w' ⟨s0, s1, s2, s3⟩; go_simp; with_reducible rfl) (h := ?_)
  refine tw_ 10 15 (bA 15 4095) HT_.out HW_.out hHeld (hv := by rintro w' ⟨s0, s1, s2, s3⟩; go_simp; with_reducible rfl) (h := ?_)
  refine pw_ 12 17 (bA 15 8191) HT_.out ?_
  refine tw_ 13 18 (bA 15 16383) HT_.out HW_.out hHeld (hv := by rintro w' ⟨s0, s1, s2, s3⟩; go_simp; with_reducible rfl) (h := ?_)
  refine pw_ 14 19 (bA 15 32767) HT_.out ?_
  refine done_ (done_of HT_.out (by kernel_rfl)) ?_
  clear hHeld HT_ HW_
  go_wp2
  clear c1 c2 ci cl
  go_loopg [4] S.opn.length (fun k v4 w' => Hid (PopRel w G base gs gg bi bl bn bc n v S R k w') ∧ Hid (k ≤ S.opn.length))
  case atStart => exact ⟨Lib.hid ⟨S.opn, S.inn, S.comp, ov, rfl, HR.out, HS.out.drew, (Ext.refl _ _).drew⟩, Lib.hid (Nat.le_refl _)⟩
  case round =>
    clear HR HS
    obtain ⟨HP, HK⟩ := hrel
    obtain ⟨opn, inn, comp, ov, hk, hp, hS, hE⟩ := HP.out
    clear HP
    cases opn with
    | nil => simp [popS] at hp
    | cons x r =>
      rw [popS] at hp
      by_cases hx : x < comp.length
      · rw [if_pos hx] at hp
        have hcl := hS.hcl
        have hnl := hS.hnl
        dsimp only at hcl hnl
        obtain ⟨g, cap, rfl, hbg, hglt⟩ := hS.ho.form (by simp)
        obtain ⟨m, hm⟩ : ∃ m, r.length = m := ⟨_, rfl⟩
        have ho := hS.ho
        simp only [List.length_cons, List.reverse_cons, hm] at ho
        have hcm : m + 1 ≤ cap := by
          rcases ho.2 with ⟨h1, _⟩ | ⟨_, _, _, h1, _, _, h2, _⟩
          · cases h1
          · cases h1; exact h2
        have x0 : (0 : Int) ≤ (x : Int) := by omega
        have x1 : (x : Int) < (n : Int) := by omega
        have m0 : (0 : Int) ≤ (m : Int) := by omega
        have m1 : (m : Int) + 1 ≤ (cap : Int) := by omega
        have m2 : (m : Int) ≤ 1000000 := by
          have := HK.out
          simp only [List.length_cons] at hk
          omega
        have co : wr.cell? ⟨g, m, none⟩ = some (.int .i64 (x : Int)) := by
          rw [ho.cellAt m (by omega)]
          simp [nats, hm]
        have hs := hS.hs
        simp only [List.length_cons, hm] at hs
        have c4 := hs.cell 4 rfl
        have f4 := hs.free 4
        obtain ⟨nx, hnx⟩ : ∃ nx, inn[x]? = some nx := ⟨_, List.getElem?_eq_getElem (by omega)⟩
        obtain ⟨cx, hcx⟩ : ∃ cx, comp[x]? = some cx := ⟨_, List.getElem?_eq_getElem hx⟩
        have hin := hS.hn
        have hc := hS.hc
        dsimp only at hin hc
        have cn := hin.cell x (bls_at _ hnx)
        have fn := hin.free x
        have cc := hc.cell x (nats_at _ hcx)
        have fc := hc.free x
        have c3 := hs.cell 3 rfl
        have c5 := hs.cell 5 rfl
        have c6 := hs.cell 6 rfl
        have f6 := hs.free 6
        have n3 := HL.out.n3
        have n4 := HL.out.n4
        have n10 := HL.out.n10
        have HSS := Lib.hid hS
        have HKK := Lib.hid hk
        have HM := Lib.hid hm
        have HE := Lib.hid hE
        have HO := Lib.hid ho
        have HIN := Lib.hid hin
        have HC := Lib.hid hc
        have HX := Lib.hid hx
        have HSN := Lib.hid hs
        have HCL := Lib.hid hcl
        have HNX := Lib.hid hnx
        have HCX := Lib.hid hcx
        have HNL := Lib.hid hnl
        clear hS hk hm hE ho hin hc hx hs hnx hcx hcl hnl
        have m3 : (m : Int) < (m : Int) + 1 := by omega
        have m4 : m ≤ cap := by omega
        have hwm : wrap64 (m : Int) = (m : Int) := by unfold wrap64; omega
        have HP := Lib.hid hp
        clear hp
        go_wp2
        refine start_ (n := 13) (S := fun w' => w'.cell? ⟨gs, 4, none⟩ = some (.slice (some ⟨g, 0, none⟩) (m + 1) cap) ∧ w'.cell? ⟨g, m, none⟩ = some (.int .i64 (x : Int))) (ds := []) (bA 13 0) (by kernel_rfl) rfl rfl ⟨c4, co⟩ (fun hHeld => ?_)
        refine with_tabW tb101_1.tab1 tb101_1.bits1 (fun HT_ HW_ => ?_)
        refine pw_ 0 20 (bA 13 1) HT_.out ?_
        refine pw_ 1 21 (bA 13 3) HT_.out ?_
        refine pw_ 2 22 (bA 13 7) HT_.out ?_
        refine pw_ 4 24 (bA 13 23) HT_.out ?_
        refine pw_ 5 25 (bA 13 55) HT_.out ?_
        refine pw_ 6 26 (bA 13 119) HT_.out ?_
        refine tw_ 3 23 (bA 13 127) HT_.out HW_.out hHeld (hv := by rintro w' ⟨s0, s1⟩; go_simp; with_reducible rfl) (h := ?_)
        refine tw_ 7 27 (bA 13 255) HT_.out HW_.out hHeld (hv := by rintro w' ⟨s0, s1⟩; go_simp; with_reducible rfl) (h := ?_)
        refine pw_ 8 28 (bA 13 511) HT_.out ?_
        refine pw_ 9 29 (bA 13 1023) HT_.out ?_
        refine pw_ 10 30 (bA 13 2047) HT_.out ?_
        refine tw_ 11 31 (bA 13 4095) HT_.out HW_.out hHeld (hv := by rintro w' ⟨s0, s1⟩; go_simp; with_reducible rfl) (h := ?_)
        refine pw_ 12 4 (bA 13 8191) HT_.out ?_
        refine done_ (done_of HT_.out (by kernel_rfl)) ?_
        clear hHeld HT_ HW_
        go_wp2
        refine start_ (n := 15) (S := fun w' => w'.cell? ⟨gs, 4, none⟩ = some (.slice (some ⟨g, 0, none⟩) (m + 1) cap)) (ds := [14]) (bA 15 0) (by kernel_rfl) rfl rfl (c4) (fun hHeld => ?_)
        refine with_tabW tb101_2.tab2 tb101_2.bits2 (fun HT_ HW_ => ?_)
        refine pw_ 0 32 (bA 15 1) HT_.out ?_
        refine pw_ 1 33 (bA 15 3) HT_.out ?_
        refine pw_ 2 34 (bA 15 7) HT_.out ?_
        refine pw_ 3 35 (bA 15 15) HT_.out ?_
        refine pw_ 5 37 (bA 15 47) HT_.out ?_
        refine pw_ 6 38 (bA 15 111) HT_.out ?_
        refine pw_ 7 39 (bA 15 239) HT_.out ?_
        refine tw_ 4 36 (bA 15 255) HT_.out HW_.out hHeld (hv := by intro w' s0; go_simp; with_reducible rfl) (h := ?_)
        refine tw_ 8 40 (bA 15 511) HT_.out HW_.out hHeld (hv := by intro w' s0; go_simp; with_reducible rfl) (h := ?_)
        refine pw_ 9 41 (bA 15 1023) HT_.out ?_
        refine pw_ 10 42 (bA 15 2047) HT_.out ?_
        refine pw_ 11 43 (bA 15 4095) HT_.out ?_
        refine pw_ 12 44 (bA 15 8191) HT_.out ?_
        refine pw_ 13 45 (bA 15 16383) HT_.out ?_
        refine last_ (i := 14) (N := none) (bA 15 32767) rfl rfl (one_of HT_.out (by kernel_rfl)) (by decide) (fun K hK => ?_)
        refine skip_ (w1 := ?_) (by rfl) rfl ?_ ?_
        rotate_left; · go_simp; rfl
        refine hK.out _ _ ?_; clear hK K
        refine done_ (done_of HT_.out (by kernel_rfl)) ?_
        clear hHeld HT_ HW_
        go_wp2
        clear hwm c4 f4 co cn fn cc fc c3 c5 c6 f6 m0 m1 m2 m3 m4
        refine gen_world (fun W => Srch W base gs gg bi bl bn bc n (.slice (some ⟨g, 0, none⟩) m cap) { S with opn := r, inn := inn, comp := comp } ∧ Ext G w W) ?_ ?_
        · have hS := HSS.out
          have L := HL.out
          have hm := HM.out
          refine ⟨⟨HSN.out.put rfl, hS.hi.off L.n1.symm, hS.hl.off L.n2.symm, hS.hn.off L.n3.symm, hS.hc.off L.n4.symm, ?_, hS.hil, hS.hll, hS.hnl, hS.hcl⟩, ?_⟩
          · have h1 := ownsRow_pop (size := 1) (n := m) (last := [.int .i64 (x : Int)]) (xs := nats r.reverse) (by simp [nats, hm]) (by have := HO.out; rw [← nats_snoc] at this; exact this)
            have h2 := h1.setB L.b1 (i := 4) (u := .slice (some ⟨g, 0, none⟩) m cap)
            rw [← hm] at h2 ⊢
            exact h2
          · exact ((HE.out.set HSN.out L.a1 (by decide) _ _).drew).drew
        clear HSS HE HO HIN HC HSN hcm hbg hglt
        rintro W ⟨hS, hE⟩
        have cn := hS.hn.cell x (bls_at _ HNX.out)
        have fn := hS.hn.free x
        have cc := hS.hc.cell x (nats_at _ HCX.out)
        have fc := hS.hc.free x
        have c3 := hS.hs.cell 3 rfl
        have c5 := hS.hs.cell 5 rfl
        have c6 := hS.hs.cell 6 rfl
        have HSS := Lib.hid hS
        have HE := Lib.hid hE
        clear hS hE
        dsimp only at cn fn cc fc c3 c5 c6
        refine start_ (n := 18) (S := fun w' => w'.cell? ⟨gs, 3, none⟩ = some (.slice (some ⟨bn, 0, none⟩) n n) ∧ w'.cell? ⟨gs, 5, none⟩ = some (.slice (some ⟨bc, 0, none⟩) n n) ∧ w'.cell? ⟨gs, 6, none⟩ = some (.int .i64 (S.cnt : Int))) (ds := [15, 17]) (bA 18 0) (by kernel_rfl) rfl rfl ⟨c3, c5, c6⟩ (fun hHeld => ?_)
        refine with_tabW tb101_3.tab3 tb101_3.bits3 (fun HT_ HW_ => ?_)
        refine pw_ 0 46 (bA 18 1) HT_.out ?_
        refine pw_ 1 47 (bA 18 3) HT_.out ?_
        refine pw_ 2 48 (bA 18 7) HT_.out ?_
        refine pw_ 4 50 (bA 18 23) HT_.out ?_
        refine pw_ 5 51 (bA 18 55) HT_.out ?_
        refine pw_ 6 52 (bA 18 119) HT_.out ?_
        refine pw_ 7 53 (bA 18 247) HT_.out ?_
        refine pw_ 9 55 (bA 18 759) HT_.out ?_
        refine pw_ 10 56 (bA 18 1783) HT_.out ?_
        refine pw_ 11 57 (bA 18 3831) HT_.out ?_
        refine pw_ 12 58 (bA 18 7927) HT_.out ?_
        refine tw_ 3 49 (bA 18 7935) HT_.out HW_.out hHeld (hv := by rintro w' ⟨s0, s1, s2⟩; go_simp; with_reducible rfl) (h := ?_)
        refine tw_ 8 54 (bA 18 8191) HT_.out HW_.out hHeld (hv := by rintro w' ⟨s0, s1, s2⟩; go_simp; with_reducible rfl) (h := ?_)
        refine tw_ 13 59 (bA 18 16383) HT_.out HW_.out hHeld (hv := by rintro w' ⟨s0, s1, s2⟩; go_simp; with_reducible rfl) (h := ?_)
        refine pw_ 14 60 (bA 18 32767) HT_.out ?_
        refine last_ (i := 15) (N := none) (bA 18 65535) rfl rfl (one_of HT_.out (by kernel_rfl)) (by decide) (fun K hK => ?_)
        refine skip_ (w1 := ?_) (by rfl) rfl ?_ ?_
        rotate_left; · go_simp; rfl
        refine hK.out _ _ ?_; clear hK K
        refine pw_ 16 61 (bA 18 131071) HT_.out ?_
        refine last_ (i := 17) (N := none) (bA 18 262143) rfl rfl (one_of HT_.out (by kernel_rfl)) (by decide) (fun K hK => ?_)
        refine skip_ (w1 := ?_) (by rfl) rfl ?_ ?_
        rotate_left; · go_simp; rfl
        refine hK.out _ _ ?_; clear hK K
        refine done_ (done_of HT_.out (by kernel_rfl)) ?_
        clear hHeld HT_ HW_; clear c3 c5 c6 cn fn cc fc
        refine gen_then (fun W => Srch W base gs gg bi bl bn bc n (.slice (some ⟨g, 0, none⟩) m cap) { S with opn := r, inn := inn.set x false, comp := comp.set x S.cnt } ∧ Ext G w W) ?_ ?_
        · have hS := HSS.out
          have L := HL.out
          refine ⟨⟨(hS.hs.off L.n3).off L.n4, (hS.hi.off L.n6).off L.n7, (hS.hl.off L.n8).off L.n9, (hS.hn.put (bls_set _ _ _).symm).off L.n10, (hS.hc.off L.n10.symm).put (nats_set _ _ _).symm, (hS.ho.setB L.b4).setB L.b5, hS.hil, hS.hll, ?_, ?_⟩, ?_⟩
          · simpa using hS.hnl
          · simpa using hS.hcl
          · exact (HE.out.drew.set hS.hn L.a4 (by decide) _ _).set (hS.hc.off L.n10.symm) L.a5 (by decide) _ _
        clear HSS HE
        rintro W2 ⟨hS2, hE2⟩
        have c6 := hS2.hs.cell 6 rfl
        have f6 := hS2.hs.free 6
        have HS2 := Lib.hid hS2
        have HE2 := Lib.hid hE2
        clear hS2 hE2
        dsimp only at c6
        have hp := HP.out
        clear HP
        by_cases hxv : x = v
        · rw [if_pos hxv] at hp
          subst hxv
          have hp := Option.some.inj hp
          have HP := Lib.hid hp
          clear hp
          go_wp2
          go_end0
          have hS := HS2.out
          have L := HL.out
          have hp := HP.out
          subst hp
          exact ⟨rfl, _, ⟨hS.hs.put rfl, hS.hi.off L.n1.symm, hS.hl.off L.n2.symm, hS.hn.off L.n3.symm, hS.hc.off L.n4.symm, hS.ho.setB L.b1, hS.hil, hS.hll, hS.hnl, hS.hcl⟩, HE2.out.set hS.hs L.a1 (by decide) _ _⟩
        · rw [if_neg hxv] at hp
          have HP := Lib.hid hp
          have e1 : ((x : Int) == (v : Int)) = false := beq_eq_false_iff_ne.2 (by omega)
          have e3 : ¬ ((x : Int) = (v : Int)) := by omega
          clear hp
          go_wp2
          go_roundg m
          case measure => have := HKK.out; have := HM.out; simp only [List.length_cons] at *; omega
          case rel => exact ⟨Lib.hid ⟨r, inn.set x false, comp.set x S.cnt, _, HM.out, HP.out, HS2.out, HE2.out⟩, Lib.hid (by have := HK.out; have := HKK.out; have := HM.out; simp only [List.length_cons] at *; omega)⟩
      · rw [if_neg hx] at hp
        cases hp

theorem leave_calls (w : World) (G base gs gg bi bl bn bc n v : Nat) (ov : Value) (S S2 : St) (hS : Srch w base gs gg bi bl bn bc n ov S) (L : Lie G base gs bi bl bn bc)
    (hv : v < n) (hn : n ≤ 1000000) (h2 : leaveS S v = some S2) :
    Calls Try.prog 101 #[.pointer (some ⟨gs, 0, none⟩), .int .i64 v] w fun e w' => e = .returned (.tuple #[]) ∧ LeavePost w G base gs gg bi bl bn bc n S2 w' := by
  obtain ⟨a, ha⟩ : ∃ a, S.low[v]? = some a := ⟨_, List.getElem?_eq_getElem (by rw [hS.hll]; exact hv)⟩
  obtain ⟨b, hb⟩ : ∃ b, S.idx[v]? = some b := ⟨_, List.getElem?_eq_getElem (by rw [hS.hil]; exact hv)⟩
  unfold leaveS at h2
  rw [List.getD_eq_getElem?_getD, List.getD_eq_getElem?_getD, ha, hb] at h2
  by_cases hab : a = b
  · subst hab
    simp only [Option.getD_some, if_true] at h2
    by_cases hc : S.cnt < 1000000 ∧ S.opn.length ≤ 1000000
    · rw [if_pos hc] at h2
      cases hp : popS v S.cnt S.opn S.inn S.comp with
      | none => rw [hp] at h2; cases h2
      | some R =>
        rw [hp] at h2
        obtain rfl := Option.some.inj h2
        exact leave_yes w G base gs gg bi bl bn bc n v a ov S R hS L hv hn ha hb hp hc.1 hc.2
    · rw [if_neg hc] at h2
      cases h2
  · simp only [Option.getD_some, if_neg hab] at h2
    obtain rfl := Option.some.inj h2
    refine (leave_no w base gs gg bi bl bn bc n v a b ov S hS hv ha hb hab).mono ?_
    rintro e w' ⟨rfl, rfl⟩
    exact ⟨rfl, ov, hS.drewN 1, (Ext.refl G w).drewN 1⟩

end Go.Proofs.Ythomnpgpbhpojaa.Scc
