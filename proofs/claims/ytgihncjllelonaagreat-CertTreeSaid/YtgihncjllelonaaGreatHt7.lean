/- (*search).leave. -/
import Derived.Test.YtgihncjllelonaaGreatHt5
import Derived.Test.YtgihncjllelonaaGreatHt6
import Derived.Test.YtgihncjllelonaaGreatHt2
import Derived.Test.YtgihncjllelonaaGreatHt4
import Derived.Deep.LoopGhost
namespace Go.Proofs.YtgihncjllelonaaGreat.Scc
open Go Go.RowKit Go.Proofs.YtgihncjllelonaaGreat.Mem Go.Proofs.YtgihncjllelonaaGreat.Tj Go.Proofs.YtgihncjllelonaaGreatW.PrintWords Go.Proofs.YtgihncjllelonaaGreatW.PrintLast
attribute [local go_sem ↓] Go.wp_at_zero Go.wp_at_succ
set_option linter.unusedSimpArgs false
set_option linter.unusedVariables false

def tb142_0.T0 : Bool × List (List Nat × List Nat) := (true, [([], []), ([0], [0]), ([1], [1]), ([2], [2]), ([], []), ([3, 4], [3, 4]), ([5], [5]), ([], []), ([7], [7]), ([8], [8]), ([9], [9]), ([], []), ([10, 11], [10, 11]), ([12], [12]), ([6, 13], [6, 13])])
def tb142_0.B0 : List Nat := [0, 1, 3, 7, 0, 31, 63, 0, 128, 384, 896, 0, 3968, 8064, 16383]
theorem tb142_0.tab0 : rtab .any (opsOf Tryz.f142 0) = tb142_0.T0 := by kernel_rfl
theorem tb142_0.bits0 : waitsOk tb142_0.T0.2 tb142_0.B0 = true := by kernel_rfl
def tb142_1.T1 : Bool × List (List Nat × List Nat) := (true, [([], []), ([0], [0]), ([1], [1]), ([2], [2]), ([], []), ([4], [4]), ([5], [5]), ([6], [6]), ([7], [7]), ([8], [8]), ([3, 9], [3, 9]), ([10], [10]), ([11, 0, 1, 2, 3, 4, 5, 6, 7, 8, 9, 10, 11], [11])])
def tb142_1.B1 : List Nat := [0, 1, 3, 7, 0, 16, 48, 112, 240, 496, 1023, 2047, 4095]
theorem tb142_1.tab1 : rtab .any (opsOf Tryz.f142 1) = tb142_1.T1 := by kernel_rfl
theorem tb142_1.bits1 : waitsOk tb142_1.T1.2 tb142_1.B1 = true := by kernel_rfl
def tb142_2.T2 : Bool × List (List Nat × List Nat) := (true, [([], []), ([], []), ([1], [1]), ([2], [2]), ([3], [3]), ([], []), ([5], [5]), ([6], [6]), ([7], [7]), ([8], [8]), ([9], [9]), ([4, 10], [4, 10]), ([0, 0, 1, 2, 3, 4, 5, 6, 7, 8, 9, 10, 11], [0]), ([12, 0, 1, 2, 3, 4, 5, 6, 7, 8, 9, 10, 11], [12]), ([13, 11, 0, 1, 2, 3, 4, 5, 6, 7, 8, 9, 10, 11], [11, 13])])
def tb142_2.B2 : List Nat := [0, 0, 2, 6, 14, 0, 32, 96, 224, 480, 992, 2046, 4095, 8191, 16383]
theorem tb142_2.tab2 : rtab .any (opsOf Tryz.f142 2) = tb142_2.T2 := by kernel_rfl
theorem tb142_2.bits2 : waitsOk tb142_2.T2.2 tb142_2.B2 = true := by kernel_rfl
def tb142_3.T3 : Bool × List (List Nat × List Nat) := (true, [([], []), ([0], [0]), ([1], [1]), ([2], [2]), ([], []), ([], []), ([5], [5]), ([6], [6]), ([7], [7]), ([], []), ([], []), ([10], [10]), ([11], [11]), ([12], [12]), ([3, 4, 0, 1, 2, 3, 4, 8, 13], [3, 4]), ([14, 0, 1, 2, 3, 4, 8, 13], [14]), ([8, 9, 0, 1, 2, 3, 4, 5, 6, 7, 8, 9, 10, 11, 12, 13, 14, 15], [8, 9]), ([16, 13, 15, 0, 1, 2, 3, 4, 5, 6, 7, 8, 9, 10, 11, 12, 13, 14, 15], [13, 16])])
def tb142_3.B3 : List Nat := [0, 1, 3, 7, 0, 0, 32, 96, 224, 0, 0, 1024, 3072, 7168, 15871, 32255, 65535, 131071]
theorem tb142_3.tab3 : rtab .any (opsOf Tryz.f142 3) = tb142_3.T3 := by kernel_rfl
theorem tb142_3.bits3 : waitsOk tb142_3.T3.2 tb142_3.B3 = true := by kernel_rfl
set_option maxHeartbeats 2000000 in
set_option maxRecDepth 100000 in
theorem leave_no (w : World) (base gs gg bi bl bn bc n v a b : Nat) (ov : Value) (S : St) (hS : Srch w base gs gg bi bl bn bc n ov S)
    (hv : v < n) (ha : S.low[v]? = some a) (hb : S.idx[v]? = some b) (hab : a ≠ b) :
    Calls Tryz.prog 142 #[.pointer (some ⟨gs, 0, none⟩), .int .i64 v] w fun e w' => e = .returned (.tuple #[]) ∧ w' = w.drewN 1 := by
  have p0 : (0 : Int) ≤ (v : Int) := by omega
  have p1 : (v : Int) < (n : Int) := by omega
  have c1 := hS.hs.cell 1 rfl
  have c2 := hS.hs.cell 2 rfl
  have ci := hS.hi.cell v (nats_at _ hb)
  have cl := hS.hl.cell v (nats_at _ ha)
  have e1 : ((a : Int) == (b : Int)) = false := beq_eq_false_iff_ne.2 (by omega)
  have e2 : ((a : Int) != (b : Int)) = true := by rw [bne, e1]; rfl
  have e3 : ¬ ((a : Int) = (b : Int)) := by omega
  clear hS hab ha hb
  go_enter Tryz.func142, Tryz.ntmps142
  go_wp2
  refine start_ (n := 15) (S := fun w' => w'.cell? ⟨gs, 2, none⟩ = some (.slice (some ⟨bl, 0, none⟩) n n) ∧ w'.cell? ⟨gs, 1, none⟩ = some (.slice (some ⟨bi, 0, none⟩) n n) ∧ w'.cell? ⟨bl, v, none⟩ = some (.int .i64 (a : Int)) ∧ w'.cell? ⟨bi, v, none⟩ = some (.int .i64 (b : Int))) (ds := []) (bA 15 0) (by kernel_rfl) rfl rfl ⟨c2, c1, cl, ci⟩ (fun hHeld => ?_)
  refine with_tabW tb142_0.tab0 tb142_0.bits0 (fun HT_ HW_ => ?_)
  refine pw_ 0 5 (bA 15 1) HT_.out ?_
  refine pw_ 1 6 (bA 15 3) HT_.out ?_
  refine pw_ 2 7 (bA 15 7) HT_.out ?_
  refine pw_ 4 9 (bA 15 23) HT_.out ?_
  refine pw_ 7 12 (bA 15 151) HT_.out ?_
  refine pw_ 8 13 (bA 15 407) HT_.out ?_
  refine pw_ 9 14 (bA 15 919) HT_.out ?_
  refine pw_ 11 16 (bA 15 2967) HT_.out ?_
  refine tw_ 3 8 (bA 15 2975) HT_.out HW_.out hHeld (hv := by rintro w' ⟨s0, s1, s2, s3⟩; go_simp; with_reducible rfl) (h := ?_)
  refine pw_ 5 10 (bA 15 3007) HT_.out ?_
  refine tw_ 6 11 (bA 15 3071) HT_.out HW_.out hHeld (hv := by rintro w' ⟨s0, s1, s2, s3⟩; go_simp; with_reducible rfl) (h := ?_)
  refine tw_ 10 15 (bA 15 4095) HT_.out HW_.out hHeld (hv := by rintro w' ⟨s0, s1, s2, s3⟩; go_simp; with_reducible rfl) (h := ?_)
  refine pw_ 12 17 (bA 15 8191) HT_.out ?_
  refine tw_ 13 18 (bA 15 16383) HT_.out HW_.out hHeld (hv := by rintro w' ⟨s0, s1, s2, s3⟩; go_simp; with_reducible rfl) (h := ?_)
  refine pw_ 14 19 (bA 15 32767) HT_.out ?_
  refine done_ (done_of HT_.out (by kernel_rfl)) ?_
  clear hHeld HT_ HW_
  go_wp2
  first | go_end0 | ((try simp only [Exit.inBlock, Exit.then]); refine bodyPost_ret (results_none rfl _ _ _) rfl ?_)
  exact ⟨rfl, rfl⟩

def PopRel (w : World) (G base gs gg bi bl bn bc n v : Nat) (S : St) (R : List Nat × List Bool × List Nat) (k : Nat) (w' : World) : Prop :=
  ∃ (opn : List Nat) (inn : List Bool) (comp : List Nat) (ov : Value), opn.length = k ∧ popS v S.cnt opn inn comp = some R ∧ Srch w' base gs gg bi bl bn bc n ov { S with opn := opn, inn := inn, comp := comp } ∧ Ext G w w'

def LeavePost (w : World) (G base gs gg bi bl bn bc n : Nat) (S : St) (w' : World) : Prop := ∃ ov', Srch w' base gs gg bi bl bn bc n ov' S ∧ Ext G w w'

set_option maxHeartbeats 4000000 in
set_option maxRecDepth 100000 in
theorem leave_yes (w : World) (G base gs gg bi bl bn bc n v a : Nat) (ov : Value) (S : St) (R : List Nat × List Bool × List Nat) (hS : Srch w base gs gg bi bl bn bc n ov S) (L : Lie G base gs bi bl bn bc)
    (hv : v < n) (hn : n ≤ 1000000) (ha : S.low[v]? = some a) (hb : S.idx[v]? = some a) (hR : popS v S.cnt S.opn S.inn S.comp = some R) (hcnt : S.cnt < 1000000) (hln : S.opn.length ≤ 1000000) :
    Calls Tryz.prog 142 #[.pointer (some ⟨gs, 0, none⟩), .int .i64 v] w fun e w' => e = .returned (.tuple #[]) ∧ LeavePost w G base gs gg bi bl bn bc n { S with opn := R.1, inn := R.2.1, comp := R.2.2, cnt := S.cnt + 1 } w' := by
  have p0 : (0 : Int) ≤ (v : Int) := by omega
  have p1 : (v : Int) < (n : Int) := by omega
  have z0 : (0 : Int) ≤ (S.cnt : Int) := by omega
  have z1 : (S.cnt : Int) < 1000000 := by omega
  have c1 := hS.hs.cell 1 rfl
  have c2 := hS.hs.cell 2 rfl
  have ci := hS.hi.cell v (nats_at _ hb)
  have cl := hS.hl.cell v (nats_at _ ha)
  have HS := Lib.hid hS
  have HL := Lib.hid L
  have HR := Lib.hid hR
  clear hS ha hb L hR
  go_enter Tryz.func142, Tryz.ntmps142
  go_wp2
  refine start_ (n := 15) (S := fun w' => w'.cell? ⟨gs, 2, none⟩ = some (.slice (some ⟨bl, 0, none⟩) n n) ∧ w'.cell? ⟨gs, 1, none⟩ = some (.slice (some ⟨bi, 0, none⟩) n n) ∧ w'.cell? ⟨bl, v, none⟩ = some (.int .i64 (a : Int)) ∧ w'.cell? ⟨bi, v, none⟩ = some (.int .i64 (a : Int))) (ds := []) (bA 15 0) (by kernel_rfl) rfl rfl ⟨c2, c1, cl, ci⟩ (fun hHeld => ?_)
  refine with_tabW tb142_0.tab0 tb142_0.bits0 (fun HT_ HW_ => ?_)
  refine pw_ 0 5 (bA 15 1) HT_.out ?_
  refine pw_ 1 6 (bA 15 3) HT_.out ?_
  refine pw_ 2 7 (bA 15 7) HT_.out ?_
  refine pw_ 4 9 (bA 15 23) HT_.out ?_
  refine pw_ 7 12 (bA 15 151) HT_.out ?_
  refine pw_ 8 13 (bA 15 407) HT_.out ?_
  refine pw_ 9 14 (bA 15 919) HT_.out ?_
  refine pw_ 11 16 (bA 15 2967) HT_.out ?_
  refine tw_ 3 8 (bA 15 2975) HT_.out HW_.out hHeld (hv := by rintro w' ⟨s0, s1, s2, s3⟩; go_simp; with_reducible rfl) (h := ?_)
  refine pw_ 5 10 (bA 15 3007) HT_.out ?_
  refine tw_ 6 11 (bA 15 3071) HT_.out HW_.out hHeld (hv := by rintro w' ⟨s0, s1, s2, s3⟩; go_simp; with_reducible rfl) (h := ?_)
  refine tw_ 10 15 (bA 15 4095) HT_.out HW_.out hHeld (hv := by rintro w' ⟨s0, s1, s2, s3⟩; go_simp; with_reducible rfl) (h := ?_)
  refine pw_ 12 17 (bA 15 8191) HT_.out ?_
  refine tw_ 13 18 (bA 15 16383) HT_.out HW_.out hHeld (hv := by rintro w' ⟨s0, s1, s2, s3⟩; go_simp; with_reducible rfl) (h := ?_)
  refine pw_ 14 19 (bA 15 32767) HT_.out ?_
  refine done_ (done_of HT_.out (by kernel_rfl)) ?_
  clear hHeld HT_ HW_
  go_wp2
  clear c1 c2 ci cl
  go_loopg [4] S.opn.length (fun k v4 w' => Hid (PopRel w G base gs gg bi bl bn bc n v S R k w') ∧ Hid (k ≤ S.opn.length))
  case atStart => exact ⟨Lib.hid ⟨S.opn, S.inn, S.comp, ov, rfl, HR.out, HS.out.drew, (Ext.refl _ _).drew⟩, Lib.hid (Nat.le_refl _)⟩
  case round =>
    clear HR HS
    obtain ⟨HP, HK⟩ := hrel
    obtain ⟨opn, inn, comp, ov, hk, hp, hS, hE⟩ := HP.out
    clear HP
    cases opn with
    | nil => simp [popS] at hp
    | cons x r =>
      rw [popS] at hp
      by_cases hx : x < comp.length
      · rw [if_pos hx] at hp
        have hcl := hS.hcl
        have hnl := hS.hnl
        dsimp only at hcl hnl
        obtain ⟨g, cap, rfl, hbg, hglt⟩ := hS.ho.form (by simp)
        obtain ⟨m, hm⟩ : ∃ m, r.length = m := ⟨_, rfl⟩
        have ho := hS.ho
        simp only [List.length_cons, List.reverse_cons, hm] at ho
        have hcm : m + 1 ≤ cap := by
          rcases ho.2 with ⟨h1, _⟩ | ⟨_, _, _, h1, _, _, h2, _⟩
          · cases h1
          · cases h1; exact h2
        have x0 : (0 : Int) ≤ (x : Int) := by omega
        have x1 : (x : Int) < (n : Int) := by omega
        have m0 : (0 : Int) ≤ (m : Int) := by omega
        have m1 : (m : Int) + 1 ≤ (cap : Int) := by omega
        have m2 : (m : Int) ≤ 1000000 := by
          have := HK.out
          simp only [List.length_cons] at hk
          omega
        have co : wr.cell? ⟨g, m, none⟩ = some (.int .i64 (x : Int)) := by
          rw [ho.cellAt m (by omega)]
          simp [nats, hm]
        have hs := hS.hs
        simp only [List.length_cons, hm] at hs
        have c4 := hs.cell 4 rfl
        have f4 := hs.free 4
        obtain ⟨nx, hnx⟩ : ∃ nx, inn[x]? = some nx := ⟨_, List.getElem?_eq_getElem (by omega)⟩
        obtain ⟨cx, hcx⟩ : ∃ cx, comp[x]? = some cx := ⟨_, List.getElem?_eq_getElem hx⟩
        have hin := hS.hn
        have hc := hS.hc
        dsimp only at hin hc
        have cn := hin.cell x (bls_at _ hnx)
        have fn := hin.free x
        have cc := hc.cell x (nats_at _ hcx)
        have fc := hc.free x
        have c3 := hs.cell 3 rfl
        have c5 := hs.cell 5 rfl
        have c6 := hs.cell 6 rfl
        have f6 := hs.free 6
        have n3 := HL.out.n3
        have n4 := HL.out.n4
        have n10 := HL.out.n10
        have HSS := Lib.hid hS
        have HKK := Lib.hid hk
        have HM := Lib.hid hm
        have HE := Lib.hid hE
        have HO := Lib.hid ho
        have HIN := Lib.hid hin
        have HC := Lib.hid hc
        have HX := Lib.hid hx
        have HSN := Lib.hid hs
        have HCL := Lib.hid hcl
        have HNX := Lib.hid hnx
        have HCX := Lib.hid hcx
        have HNL := Lib.hid hnl
        clear hS hk hm hE ho hin hc hx hs hnx hcx hcl hnl
        have m3 : (m : Int) < (m : Int) + 1 := by omega
        have m4 : m ≤ cap := by omega
        have hwm : wrap64 (m : Int) = (m : Int) := by unfold wrap64; omega
        have HP := Lib.hid hp
        clear hp
        go_wp2
        refine start_ (n := 13) (S := fun w' => w'.cell? ⟨gs, 4, none⟩ = some (.slice (some ⟨g, 0, none⟩) (m + 1) cap) ∧ w'.cell? ⟨g, m, none⟩ = some (.int .i64 (x : Int))) (ds := []) (bA 13 0) (by kernel_rfl) rfl rfl ⟨c4, co⟩ (fun hHeld => ?_)
        refine with_tabW tb142_1.tab1 tb142_1.bits1 (fun HT_ HW_ => ?_)
        refine pw_ 0 20 (bA 13 1) HT_.out ?_
        refine pw_ 1 21 (bA 13 3) HT_.out ?_
        refine pw_ 2 22 (bA 13 7) HT_.out ?_
        refine pw_ 4 24 (bA 13 23) HT_.out ?_
        refine pw_ 5 25 (bA 13 55) HT_.out ?_
        refine pw_ 6 26 (bA 13 119) HT_.out ?_
        refine tw_ 3 23 (bA 13 127) HT_.out HW_.out hHeld (hv := by rintro w' ⟨s0, s1⟩; go_simp; with_reducible rfl) (h := ?_)
        refine tw_ 7 27 (bA 13 255) HT_.out HW_.out hHeld (hv := by rintro w' ⟨s0, s1⟩; go_simp; with_reducible rfl) (h := ?_)
        refine pw_ 8 28 (bA 13 511) HT_.out ?_
        refine pw_ 9 29 (bA 13 1023) HT_.out ?_
        refine pw_ 10 30 (bA 13 2047) HT_.out ?_
        refine tw_ 11 31 (bA 13 4095) HT_.out HW_.out hHeld (hv := by rintro w' ⟨s0, s1⟩; go_simp; with_reducible rfl) (h := ?_)
        refine pw_ 12 4 (bA 13 8191) HT_.out ?_
        refine done_ (done_of HT_.out (by kernel_rfl)) ?_
        clear hHeld HT_ HW_
        go_wp2
        refine start_ (n := 15) (S := fun w' => w'.cell? ⟨gs, 4, none⟩ = some (.slice (some ⟨g, 0, none⟩) (m + 1) cap)) (ds := [14]) (bA 15 0) (by kernel_rfl) rfl rfl (c4) (fun hHeld => ?_)
        refine with_tabW tb142_2.tab2 tb142_2.bits2 (fun HT_ HW_ => ?_)
        refine pw_ 0 32 (bA 15 1) HT_.out ?_
        refine pw_ 1 33 (bA 15 3) HT_.out ?_
        refine pw_ 2 34 (bA 15 7) HT_.out ?_
        refine pw_ 3 35 (bA 15 15) HT_.out ?_
        refine pw_ 5 37 (bA 15 47) HT_.out ?_
        refine pw_ 6 38 (bA 15 111) HT_.out ?_
        refine pw_ 7 39 (bA 15 239) HT_.out ?_
        refine tw_ 4 36 (bA 15 255) HT_.out HW_.out hHeld (hv := by intro w' s0; go_simp; with_reducible rfl) (h := ?_)
        refine tw_ 8 40 (bA 15 511) HT_.out HW_.out hHeld (hv := by intro w' s0; go_simp; with_reducible rfl) (h := ?_)
        refine pw_ 9 41 (bA 15 1023) HT_.out ?_
        refine pw_ 10 42 (bA 15 2047) HT_.out ?_
        refine pw_ 11 43 (bA 15 4095) HT_.out ?_
        refine pw_ 12 44 (bA 15 8191) HT_.out ?_
        refine pw_ 13 45 (bA 15 16383) HT_.out ?_
        refine last_ (i := 14) (N := none) (bA 15 32767) rfl rfl (one_of HT_.out (by kernel_rfl)) (by decide) (fun K hK => ?_)
        refine skip_ (w1 := ?_) (by rfl) rfl ?_ ?_
        rotate_left; · go_simp; rfl
        refine hK.out _ _ ?_; clear hK K
        refine done_ (done_of HT_.out (by kernel_rfl)) ?_
        clear hHeld HT_ HW_
        go_wp2
        clear hwm c4 f4 co cn fn cc fc c3 c5 c6 f6 m0 m1 m2 m3 m4
        refine gen_world (fun W => Srch W base gs gg bi bl bn bc n (.slice (some ⟨g, 0, none⟩) m cap) { S with opn := r, inn := inn, comp := comp } ∧ Ext G w W) ?_ ?_
        · have hS := HSS.out
          have L := HL.out
          have hm := HM.out
          refine ⟨⟨HSN.out.put rfl, hS.hi.off L.n1.symm, hS.hl.off L.n2.symm, hS.hn.off L.n3.symm, hS.hc.off L.n4.symm, ?_, hS.hil, hS.hll, hS.hnl, hS.hcl⟩, ?_⟩
          · have h1 := ownsRow_pop (size := 1) (n := m) (last := [.int .i64 (x : Int)]) (xs := nats r.reverse) (by simp [nats, hm]) (by have := HO.out; rw [← nats_snoc] at this; exact this)
            have h2 := h1.setB L.b1 (i := 4) (u := .slice (some ⟨g, 0, none⟩) m cap)
            rw [← hm] at h2 ⊢
            exact h2
          · exact ((HE.out.set HSN.out L.a1 (by decide) _ _).drew).drew
        clear HSS HE HO HIN HC HSN hcm hbg hglt
        rintro W ⟨hS, hE⟩
        have cn := hS.hn.cell x (bls_at _ HNX.out)
        have fn := hS.hn.free x
        have cc := hS.hc.cell x (nats_at _ HCX.out)
        have fc := hS.hc.free x
        have c3 := hS.hs.cell 3 rfl
        have c5 := hS.hs.cell 5 rfl
        have c6 := hS.hs.cell 6 rfl
        have HSS := Lib.hid hS
        have HE := Lib.hid hE
        clear hS hE
        dsimp only at cn fn cc fc c3 c5 c6
        refine start_ (n := 18) (S := fun w' => w'.cell? ⟨gs, 3, none⟩ = some (.slice (some ⟨bn, 0, none⟩) n n) ∧ w'.cell? ⟨gs, 5, none⟩ = some (.slice (some ⟨bc, 0, none⟩) n n) ∧ w'.cell? ⟨gs, 6, none⟩ = some (.int .i64 (S.cnt : Int))) (ds := [15, 17]) (bA 18 0) (by kernel_rfl) rfl rfl ⟨c3, c5, c6⟩ (fun hHeld => ?_)
        refine with_tabW tb142_3.tab3 tb142_3.bits3 (fun HT_ HW_ => ?_)
        refine pw_ 0 46 (bA 18 1) HT_.out ?_
        refine pw_ 1 47 (bA 18 3) HT_.out ?_
        refine pw_ 2 48 (bA 18 7) HT_.out ?_
        refine pw_ 4 50 (bA 18 23) HT_.out ?_
        refine pw_ 5 51 (bA 18 55) HT_.out ?_
        refine pw_ 6 52 (bA 18 119) HT_.out ?_
        refine pw_ 7 53 (bA 18 247) HT_.out ?_
        refine pw_ 9 55 (bA 18 759) HT_.out ?_
        refine pw_ 10 56 (bA 18 1783) HT_.out ?_
        refine pw_ 11 57 (bA 18 3831) HT_.out ?_
        refine pw_ 12 58 (bA 18 7927) HT_.out ?_
        refine tw_ 3 49 (bA 18 7935) HT_.out HW_.out hHeld (hv := by rintro w' ⟨s0, s1, s2⟩; go_simp; with_reducible rfl) (h := ?_)
        refine tw_ 8 54 (bA 18 8191) HT_.out HW_.out hHeld (hv := by rintro w' ⟨s0, s1, s2⟩; go_simp; with_reducible rfl) (h := ?_)
        refine tw_ 13 59 (bA 18 16383) HT_.out HW_.out hHeld (hv := by rintro w' ⟨s0, s1, s2⟩; go_simp; with_reducible rfl) (h := ?_)
        refine pw_ 14 60 (bA 18 32767) HT_.out ?_
        refine last_ (i := 15) (N := none) (bA 18 65535) rfl rfl (one_of HT_.out (by kernel_rfl)) (by decide) (fun K hK => ?_)
        refine skip_ (w1 := ?_) (by rfl) rfl ?_ ?_
        rotate_left; · go_simp; rfl
        refine hK.out _ _ ?_; clear hK K
        refine pw_ 16 61 (bA 18 131071) HT_.out ?_
        refine last_ (i := 17) (N := none) (bA 18 262143) rfl rfl (one_of HT_.out (by kernel_rfl)) (by decide) (fun K hK => ?_)
        refine skip_ (w1 := ?_) (by rfl) rfl ?_ ?_
        rotate_left; · go_simp; rfl
        refine hK.out _ _ ?_; clear hK K
        refine done_ (done_of HT_.out (by kernel_rfl)) ?_
        clear hHeld HT_ HW_; clear c3 c5 c6 cn fn cc fc
        refine gen_then (fun W => Srch W base gs gg bi bl bn bc n (.slice (some ⟨g, 0, none⟩) m cap) { S with opn := r, inn := inn.set x false, comp := comp.set x S.cnt } ∧ Ext G w W) ?_ ?_
        · have hS := HSS.out
          have L := HL.out
          refine ⟨⟨(hS.hs.off L.n3).off L.n4, (hS.hi.off L.n6).off L.n7, (hS.hl.off L.n8).off L.n9, (hS.hn.put (bls_set _ _ _).symm).off L.n10, (hS.hc.off L.n10.symm).put (nats_set _ _ _).symm, (hS.ho.setB L.b4).setB L.b5, hS.hil, hS.hll, ?_, ?_⟩, ?_⟩
          · simpa using hS.hnl
          · simpa using hS.hcl
          · exact (HE.out.drew.set hS.hn L.a4 (by decide) _ _).set (hS.hc.off L.n10.symm) L.a5 (by decide) _ _
        clear HSS HE
        rintro W2 ⟨hS2, hE2⟩
        have c6 := hS2.hs.cell 6 rfl
        have f6 := hS2.hs.free 6
        have HS2 := Lib.hid hS2
        have HE2 := Lib.hid hE2
        clear hS2 hE2
        dsimp only at c6
        have hp := HP.out
        clear HP
        by_cases hxv : x = v
        · rw [if_pos hxv] at hp
          subst hxv
          have hp := Option.some.inj hp
          have HP := Lib.hid hp
          clear hp
          go_wp2
          go_end0
          have hS := HS2.out
          have L := HL.out
          have hp := HP.out
          subst hp
          exact ⟨rfl, _, ⟨hS.hs.put rfl, hS.hi.off L.n1.symm, hS.hl.off L.n2.symm, hS.hn.off L.n3.symm, hS.hc.off L.n4.symm, hS.ho.setB L.b1, hS.hil, hS.hll, hS.hnl, hS.hcl⟩, HE2.out.set hS.hs L.a1 (by decide) _ _⟩
        · rw [if_neg hxv] at hp
          have HP := Lib.hid hp
          have e1 : ((x : Int) == (v : Int)) = false := beq_eq_false_iff_ne.2 (by omega)
          have e3 : ¬ ((x : Int) = (v : Int)) := by omega
          clear hp
          go_wp2
          go_roundg m
          case measure => have := HKK.out; have := HM.out; simp only [List.length_cons] at *; omega
          case rel => exact ⟨Lib.hid ⟨r, inn.set x false, comp.set x S.cnt, _, HM.out, HP.out, HS2.out, HE2.out⟩, Lib.hid (by have := HK.out; have := HKK.out; have := HM.out; simp only [List.length_cons] at *; omega)⟩
      · rw [if_neg hx] at hp
        cases hp

theorem leave_calls (w : World) (G base gs gg bi bl bn bc n v : Nat) (ov : Value) (S S2 : St) (hS : Srch w base gs gg bi bl bn bc n ov S) (L : Lie G base gs bi bl bn bc)
    (hv : v < n) (hn : n ≤ 1000000) (h2 : leaveS S v = some S2) :
    Calls Tryz.prog 142 #[.pointer (some ⟨gs, 0, none⟩), .int .i64 v] w fun e w' => e = .returned (.tuple #[]) ∧ LeavePost w G base gs gg bi bl bn bc n S2 w' := by
  obtain ⟨a, ha⟩ : ∃ a, S.low[v]? = some a := ⟨_, List.getElem?_eq_getElem (by rw [hS.hll]; exact hv)⟩
  obtain ⟨b, hb⟩ : ∃ b, S.idx[v]? = some b := ⟨_, List.getElem?_eq_getElem (by rw [hS.hil]; exact hv)⟩
  unfold leaveS at h2
  rw [List.getD_eq_getElem?_getD, List.getD_eq_getElem?_getD, ha, hb] at h2
  by_cases hab : a = b
  · subst hab
    simp only [Option.getD_some, if_true] at h2
    by_cases hc : S.cnt < 1000000 ∧ S.opn.length ≤ 1000000
    · rw [if_pos hc] at h2
      cases hp : popS v S.cnt S.opn S.inn S.comp with
      | none => rw [hp] at h2; cases h2
      | some R =>
        rw [hp] at h2
        obtain rfl := Option.some.inj h2
        exact leave_yes w G base gs gg bi bl bn bc n v a ov S R hS L hv hn ha hb hp hc.1 hc.2
    · rw [if_neg hc] at h2
      cases h2
  · simp only [Option.getD_some, if_neg hab] at h2
    obtain rfl := Option.some.inj h2
    refine (leave_no w base gs gg bi bl bn bc n v a b ov S hS hv ha hb hab).mono ?_
    rintro e w' ⟨rfl, rfl⟩
    exact ⟨rfl, ov, hS.drewN 1, (Ext.refl G w).drewN 1⟩

end Go.Proofs.YtgihncjllelonaaGreat.Scc
