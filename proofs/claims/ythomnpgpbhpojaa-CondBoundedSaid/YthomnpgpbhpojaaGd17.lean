/- scc.search in memory, and what enter does. -/
import Derived.Test.YthomnpgpbhpojaaProg
import Derived.Test.YthomnpgpbhpojaaGd1
import Derived.Test.YthomnpgpbhpojaaGd16
import Derived.KernelRfl
import Derived.Deep.RegionHeld3
import Derived.Deep.DrawnRows
import Derived.BigRegion
import Derived.Outline
import Derived.WalkLawsBesides
import Derived.WalkSpells
import Derived.Lib.Hide
import Derived.Test.YthomnpgpbhpojaaGd4
import Derived.Test.YthomnpgpbhpojaaGd6
namespace Go.Proofs.Ythomnpgpbhpojaa.Scc
set_option linter.unusedSimpArgs false
set_option linter.unusedVariables false
open Go Go.RowKit Go.Proofs.Ythomnpgpbhpojaa.Mem Go.Proofs.Ythomnpgpbhpojaa.Tj
attribute [local go_sem ↓] Go.wp_at_zero Go.wp_at_succ

theorem info_int : (Try.prog.info? 3).map (fun i => (i.zero, i.size, i.bytes)) = some (some (.int .i64 0), 1, 8) := by kernel_rfl

structure Srch (w : World) (base gs gg bi bl bn bc n : Nat) (ov : Value) (S : St) : Prop where
  hs : At w gs [.pointer (some ⟨gg, 0, none⟩), .slice (some ⟨bi, 0, none⟩) n n, .slice (some ⟨bl, 0, none⟩) n n, .slice (some ⟨bn, 0, none⟩) n n, ov, .slice (some ⟨bc, 0, none⟩) n n, (.int .i64 (S.cnt : Int)), (.int .i64 (S.time : Int))] 126
  hi : At w bi (nats S.idx) 3
  hl : At w bl (nats S.low) 3
  hn : At w bn (bls S.inn) 4
  hc : At w bc (nats S.comp) 3
  ho : w.ownsRow base 3 1 ov S.opn.length (nats S.opn.reverse)
  hil : S.idx.length = n
  hll : S.low.length = n
  hnl : S.inn.length = n
  hcl : S.comp.length = n

structure Lie (G base gs bi bl bn bc : Nat) : Prop where
  a1 : G ≤ gs
  a2 : G ≤ bi
  a3 : G ≤ bl
  a4 : G ≤ bn
  a5 : G ≤ bc
  b1 : gs < base
  b2 : bi < base
  b3 : bl < base
  b4 : bn < base
  b5 : bc < base
  n1 : gs ≠ bi
  n2 : gs ≠ bl
  n3 : gs ≠ bn
  n4 : gs ≠ bc
  n5 : bi ≠ bl
  n6 : bi ≠ bn
  n7 : bi ≠ bc
  n8 : bl ≠ bn
  n9 : bl ≠ bc
  n10 : bn ≠ bc

structure Ext (G : Nat) (w w' : World) : Prop where
  below : Below G w w'
  way : ∀ k cs, At w k cs 137 → At w' k cs 137

theorem Ext.refl (G : Nat) (w : World) : Ext G w w := ⟨Below.refl G w, fun _ _ h => h⟩
theorem Ext.trans {G : Nat} {a b c : World} (h : Ext G a b) (k : Ext G b c) : Ext G a c := ⟨h.below.trans k.below, fun _ _ x => k.way _ _ (h.way _ _ x)⟩
theorem Ext.drew {G : Nat} {a b : World} (h : Ext G a b) : Ext G a b.drew := ⟨h.below.drew, h.way⟩
theorem Ext.drewN {G : Nat} {a b : World} (h : Ext G a b) (n : Nat) : Ext G a (b.drewN n) := ⟨below_drewN h.below n, h.way⟩
theorem Ext.alloc {G : Nat} {a b : World} (h : Ext G a b) (hG : G ≤ b.heap.size) (o : Obj) : Ext G a (b.alloc o) := ⟨h.below.alloc hG o, fun k cs x => (h.way k cs x).alloc o⟩
theorem Ext.set {G : Nat} {a b : World} (h : Ext G a b) {g : Nat} {cs : List Value} {T : TypeId} (hg : At b g cs T) (hG : G ≤ g) (hT : 137 ≠ T) (i : Nat) (u : Value) : Ext G a (b.setCell ⟨g, i, none⟩ u) :=
  ⟨h.below.setCell hG u, fun k cs' x => (h.way k cs' x).far ((h.way k cs' x).ne hg hT) u⟩
theorem Ext.grown {G : Nat} {a b c : World} (h : Ext G a b) {base n : Nat} {v : Value} {xs : List Value} (ho : b.ownsRow base 3 1 v n xs) (hg : b.grownBy c v.ownBlock) (hb : G ≤ base) (hG : G ≤ b.heap.size) : Ext G a c :=
  ⟨h.below.grown hg hG (fun k hk => Nat.le_trans hb (ho.lt k hk).1), fun k cs x => (h.way k cs x).grown hg (own_off ho (h.way k cs x) (by decide))⟩

theorem Srch.beside {w : World} {base gs gg bi bl bn bc n : Nat} {ov : Value} {S : St} {G : Nat} (h : Srch w base gs gg bi bl bn bc n ov S) (L : Lie G base gs bi bl bn bc) {k i : Nat} (hk : base ≤ k) (ho : some k ≠ ov.ownBlock) (u : Value) :
    Srch (w.setCell ⟨k, i, none⟩ u) base gs gg bi bl bn bc n ov S :=
  have := L.b1; have := L.b2; have := L.b3; have := L.b4; have := L.b5
  ⟨h.hs.off (by omega), h.hi.off (by omega), h.hl.off (by omega), h.hn.off (by omega), h.hc.off (by omega), ownsRow_setCell_other h.ho (fun e => ho e.symm) u, h.hil, h.hll, h.hnl, h.hcl⟩
theorem Srch.drewN {w : World} {base gs gg bi bl bn bc n : Nat} {ov : Value} {S : St} (h : Srch w base gs gg bi bl bn bc n ov S) (k : Nat) : Srch (w.drewN k) base gs gg bi bl bn bc n ov S :=
  ⟨h.hs, h.hi, h.hl, h.hn, h.hc, h.ho, h.hil, h.hll, h.hnl, h.hcl⟩
theorem Srch.drew {w : World} {base gs gg bi bl bn bc n : Nat} {ov : Value} {S : St} (h : Srch w base gs gg bi bl bn bc n ov S) : Srch w.drew base gs gg bi bl bn bc n ov S :=
  ⟨h.hs, h.hi, h.hl, h.hn, h.hc, h.ho, h.hil, h.hll, h.hnl, h.hcl⟩
theorem Srch.alloc {w : World} {base gs gg bi bl bn bc n : Nat} {ov : Value} {S : St} (h : Srch w base gs gg bi bl bn bc n ov S) (o : Obj) : Srch (w.alloc o) base gs gg bi bl bn bc n ov S :=
  ⟨h.hs.alloc o, h.hi.alloc o, h.hl.alloc o, h.hn.alloc o, h.hc.alloc o, h.ho.alloc o, h.hil, h.hll, h.hnl, h.hcl⟩
theorem Srch.grownWay {w w' : World} {base gs gg bi bl bn bc n m : Nat} {ov v : Value} {S : St} {G : Nat} {xs : List Value} (h : Srch w base gs gg bi bl bn bc n ov S) (L : Lie G base gs bi bl bn bc) (ho : w.ownsRow base 137 2 v m xs) (hg : w.grownBy w' v.ownBlock) :
    Srch w' base gs gg bi bl bn bc n ov S :=
  ⟨h.hs.grown hg (own_under ho L.b1), h.hi.grown hg (own_under ho L.b2), h.hl.grown hg (own_under ho L.b3), h.hn.grown hg (own_under ho L.b4), h.hc.grown hg (own_under ho L.b5),
    h.ho.kept hg (own_apart h.ho ho (by decide)), h.hil, h.hll, h.hnl, h.hcl⟩
theorem Ext.fresh {G : Nat} {a b : World} (h : Ext G a b) {k : Nat} (hk : a.heap.size ≤ k) (hG : G ≤ k) (i : Nat) (u : Value) : Ext G a (b.setCell ⟨k, i, none⟩ u) :=
  ⟨h.below.setCell hG u, fun k' cs x => (h.way k' cs x).off (by have := x.lt; omega)⟩

end Go.Proofs.Ythomnpgpbhpojaa.Scc

/- (*search).enter. -/
namespace Go.Proofs.Ythomnpgpbhpojaa.Scc
open Go Go.RowKit Go.Proofs.Ythomnpgpbhpojaa.Mem Go.Proofs.Ythomnpgpbhpojaa.Tj Go.Proofs.YthomnpgpbhpojaaW.PrintWords Go.Proofs.YthomnpgpbhpojaaW.PrintLast
attribute [local go_sem ↓] Go.wp_at_zero Go.wp_at_succ
set_option linter.unusedSimpArgs false
set_option linter.unusedVariables false

def tb100_3.T3 : Bool × List (List Nat × List Nat) := (true, [([], []), ([], []), ([1], [1]), ([2], [2]), ([3], [3]), ([], []), ([], []), ([6], [6]), ([7], [7]), ([8], [8]), ([], []), ([10], [10]), ([9, 11], [9, 11]), ([0, 0, 4, 6, 7, 8, 9, 10, 11, 12], [0]), ([13, 0, 4, 6, 7, 8, 9, 10, 11, 12], [13]), ([14, 12, 12, 0, 4, 6, 7, 8, 9, 10, 11, 12], [12, 14]), ([4, 5, 0, 1, 2, 3, 4, 5, 6, 7, 8, 9, 10, 11, 12, 13, 14, 15], [4, 5]), ([16, 15, 0, 1, 2, 3, 4, 5, 6, 7, 8, 9, 10, 11, 12, 13, 14, 15], [16])])
def tb100_3.B3 : List Nat := [0, 0, 2, 6, 14, 0, 0, 64, 192, 448, 0, 1024, 4032, 8159, 16351, 32735, 65535, 131071]
theorem tb100_3.tab3 : rtab .any (opsOf Try.f100 3) = tb100_3.T3 := by kernel_rfl
theorem tb100_3.bits3 : waitsOk tb100_3.T3.2 tb100_3.B3 = true := by kernel_rfl
def EnterPost (w : World) (G base gs gg bi bl bn bc n : Nat) (S : St) (v : Nat) (w' : World) : Prop := ∃ ov', Srch w' base gs gg bi bl bn bc n ov' (enterS S v) ∧ Ext G w w'

set_option maxHeartbeats 2000000 in
set_option maxRecDepth 100000 in
theorem enter_calls (w : World) (G base gs gg bi bl bn bc n v : Nat) (ov : Value) (S : St) (hS : Srch w base gs gg bi bl bn bc n ov S) (L : Lie G base gs bi bl bn bc)
    (hv : v < n) (hn : n ≤ 1000000) (ht : S.time < 1000000) (hl : S.opn.length < 1000000) (hb : base ≤ w.heap.size) :
    Calls Try.prog 100 #[.pointer (some ⟨gs, 0, none⟩), .int .i64 v] w fun e w' => e = .returned (.agg #[.int .i64 v, .int .i64 0]) ∧ EnterPost w G base gs gg bi bl bn bc n S v w' := by
  have p0 : (0 : Int) ≤ (v : Int) := by omega
  have p1 : (v : Int) < (n : Int) := by omega
  have t0 : (0 : Int) ≤ (S.time : Int) := by omega
  have t1 : (S.time : Int) ≤ 1000000 := by omega
  have HS := Lib.hid hS
  have HL := Lib.hid L
  have HBW := Lib.hid hb
  have hs := hS.hs
  have hi := hS.hi
  have hlo := hS.hl
  have c1 := hs.cell 1 rfl
  have c2 := hs.cell 2 rfl
  have c7 := hs.cell 7 rfl
  have f7 := hs.free 7
  obtain ⟨iv, hiv⟩ : ∃ iv, S.idx[v]? = some iv := ⟨_, List.getElem?_eq_getElem (by rw [hS.hil]; exact hv)⟩
  obtain ⟨lv, hlv⟩ : ∃ lv, S.low[v]? = some lv := ⟨_, List.getElem?_eq_getElem (by rw [hS.hll]; exact hv)⟩
  obtain ⟨nv, hnv⟩ : ∃ nv, S.inn[v]? = some nv := ⟨_, List.getElem?_eq_getElem (by rw [hS.hnl]; exact hv)⟩
  have ci := hi.cell v (nats_at _ hiv)
  have fi := hi.free v
  have cl := hlo.cell v (nats_at _ hlv)
  have fl := hlo.free v
  have HNV := Lib.hid hnv
  clear hiv hlv hnv
  have n1 := L.n1
  have n2 := L.n2
  have n5 := L.n5
  have l1 := hs.lt
  have l2 := hi.lt
  have l3 := hlo.lt
  have q1 := Nat.ne_of_lt l1
  have q2 := Nat.ne_of_lt l2
  have q3 := Nat.ne_of_lt l3
  clear hs hi hlo hS L
  go_enter Try.func100, Try.ntmps100
  go_wp2
  go_region
  go_wp2
  have hS := HS.out
  have L := HL.out
  obtain ⟨rb, hrb⟩ : ∃ rb, rb = w.heap.size := ⟨_, rfl⟩
  refine gen_world (fun W => At W gs [.pointer (some ⟨gg, 0, none⟩), .slice (some ⟨bi, 0, none⟩) n n, .slice (some ⟨bl, 0, none⟩) n n, .slice (some ⟨bn, 0, none⟩) n n, ov, .slice (some ⟨bc, 0, none⟩) n n, .int .i64 (S.cnt : Int), .int .i64 ((S.time + 1 : Nat) : Int)] 126 ∧
    At W bi (nats (S.idx.set v (S.time + 1))) 3 ∧ At W bl (nats (S.low.set v (S.time + 1))) 3 ∧ At W bn (bls S.inn) 4 ∧ At W bc (nats S.comp) 3 ∧
    W.ownsRow base 3 1 ov S.opn.length (nats S.opn.reverse) ∧ Ext G w W ∧ At W w.heap.size [.int .i64 0, .int .i64 0] 137 ∧ base ≤ W.heap.size) ?_ ?_
  · refine ⟨?_, ?_, ?_, ?_, ?_, ?_, ?_, ?_, ?_⟩
    · exact (((hS.hs.put rfl).off L.n1).off L.n2).al.drew
    · exact (((hS.hi.off L.n1.symm).put (nats_set _ _ _).symm).off L.n5).al.drew
    · exact (((hS.hl.off L.n2.symm).off L.n5.symm).put (nats_set _ _ _).symm).al.drew
    · exact (((hS.hn.off L.n3.symm).off L.n6.symm).off L.n8.symm).al.drew
    · exact (((hS.hc.off L.n4.symm).off L.n7.symm).off L.n9.symm).al.drew
    · exact ((((hS.ho.setB L.b1).setB L.b2).setB L.b3).alloc _).drew
    · refine Ext.drew (Ext.alloc ?_ (by simp; have := L.a1; have := L.b1; omega) _)
      refine Ext.set (Ext.set (Ext.set (Ext.refl G w) hS.hs L.a1 (by decide) _ _) (hS.hi.off L.n1.symm) L.a2 (by decide) _ _) ((hS.hl.off L.n2.symm).off L.n5.symm) L.a3 (by decide) _ _
    · exact (At.made (by simp) rfl).drew
    · simp; omega
  clear hS L c1 c2 c7 f7 ci fi cl fl l1 l2 l3 q1 q2 q3 hb
  rintro W ⟨hs, hi, hlo, hin, hc, ho, he, hr, hb⟩
  have c3 := hs.cell 3 rfl
  have c4 := hs.cell 4 rfl
  have f4 := hs.free 4
  have cn := hin.cell v (bls_at _ HNV.out)
  have fn := hin.free v
  have c0r := hr.cell 0 rfl
  have c1r := hr.cell 1 rfl
  have f0r := hr.free 0
  have f1r := hr.free 1
  have n3 := HL.out.n3
  have l1 := hs.lt
  have l4 := hin.lt
  have q1 := Nat.ne_of_lt l1
  have q4 := Nat.ne_of_lt l4
  obtain ⟨i0, hi0, hz0, hz1, hz2⟩ := info_parts info_int
  have HO := Lib.hid ho
  have HIN := Lib.hid hin
  have HS2 := Lib.hid hs
  have HB := Lib.hid hb
  have HR := Lib.hid hr
  have HI2 := Lib.hid hi
  have HLO := Lib.hid hlo
  have HC := Lib.hid hc
  have HE := Lib.hid he
  clear hi hlo hc he ho hin hs hb hr
  refine start_ (n := 18) (S := fun w' => w'.cell? ⟨gs, 3, none⟩ = some (.slice (some ⟨bn, 0, none⟩) n n) ∧ w'.cell? ⟨gs, 4, none⟩ = some ov) (ds := [15, 17]) (bA 18 0) (by kernel_rfl) rfl rfl ⟨(HS2.out.drew.cell 3 rfl), (HS2.out.drew.cell 4 rfl)⟩ (fun hHeld => ?_)
  refine with_tabW tb100_3.tab3 tb100_3.bits3 (fun HT_ HW_ => ?_)
  refine pure_ (i := 0) (N := some 32) (v := ?_) (a' := ?_) (bA 18 1) rfl rfl (any_of HT_.out (by kernel_rfl)) (fun _ _ _ h => h) (Or.inl ⟨by rfl, ?_⟩) ?_ ?_
  rotate_left; · intro w'; go_simp; with_reducible rfl
  rotate_left; · simp only [Act.put, pA, pB, pC, pD, pE]; rfl
  refine pure_ (i := 1) (N := some 33) (v := ?_) (a' := ?_) (bA 18 3) rfl rfl (any_of HT_.out (by kernel_rfl)) (fun _ _ _ h => h) (Or.inl ⟨by rfl, ?_⟩) ?_ ?_
  rotate_left; · intro w'; go_simp; with_reducible rfl
  rotate_left; · simp only [Act.put, pA, pB, pC, pD, pE]; rfl
  refine pure_ (i := 2) (N := some 34) (v := ?_) (a' := ?_) (bA 18 7) rfl rfl (any_of HT_.out (by kernel_rfl)) (fun _ _ _ h => h) (Or.inl ⟨by rfl, ?_⟩) ?_ ?_
  rotate_left; · intro w'; go_simp; with_reducible rfl
  rotate_left; · simp only [Act.put, pA, pB, pC, pD, pE]; rfl
  refine pure_ (i := 3) (N := some 35) (v := ?_) (a' := ?_) (bA 18 15) rfl rfl (any_of HT_.out (by kernel_rfl)) (fun _ _ _ h => h) (Or.inl ⟨by rfl, ?_⟩) ?_ ?_
  rotate_left; · intro w'; go_simp; with_reducible rfl
  rotate_left; · simp only [Act.put, pA, pB, pC, pD, pE]; rfl
  refine pure_ (i := 5) (N := some 37) (v := ?_) (a' := ?_) (bA 18 47) rfl rfl (any_of HT_.out (by kernel_rfl)) (fun _ _ _ h => h) (Or.inl ⟨by rfl, ?_⟩) ?_ ?_
  rotate_left; · intro w'; go_simp; with_reducible rfl
  rotate_left; · simp only [Act.put, pA, pB, pC, pD, pE]; rfl
  refine pure_ (i := 6) (N := some 38) (v := ?_) (a' := ?_) (bA 18 111) rfl rfl (any_of HT_.out (by kernel_rfl)) (fun _ _ _ h => h) (Or.inl ⟨by rfl, ?_⟩) ?_ ?_
  rotate_left; · intro w'; go_simp; with_reducible rfl
  rotate_left; · simp only [Act.put, pA, pB, pC, pD, pE]; rfl
  refine pure_ (i := 7) (N := some 39) (v := ?_) (a' := ?_) (bA 18 239) rfl rfl (any_of HT_.out (by kernel_rfl)) (fun _ _ _ h => h) (Or.inl ⟨by rfl, ?_⟩) ?_ ?_
  rotate_left; · intro w'; go_simp; with_reducible rfl
  rotate_left; · simp only [Act.put, pA, pB, pC, pD, pE]; rfl
  refine pure_ (i := 8) (N := some 40) (v := ?_) (a' := ?_) (bA 18 495) rfl rfl (any_of HT_.out (by kernel_rfl)) (fun _ _ _ h => h) (Or.inl ⟨by rfl, ?_⟩) ?_ ?_
  rotate_left; · intro w'; go_simp; with_reducible rfl
  rotate_left; · simp only [Act.put, pA, pB, pC, pD, pE]; rfl
  refine pure_ (i := 10) (N := some 42) (v := ?_) (a' := ?_) (bA 18 1519) rfl rfl (any_of HT_.out (by kernel_rfl)) (fun _ _ _ h => h) (Or.inl ⟨by rfl, ?_⟩) ?_ ?_
  rotate_left; · intro w'; go_simp; with_reducible rfl
  rotate_left; · simp only [Act.put, pA, pB, pC, pD, pE]; rfl
  refine take_ (i := 4) (N := some 36) (v := ?_) (a' := ?_) (bA 18 1535) rfl rfl (take_ofW HT_.out HW_.out (by kernel_rfl)) (fun _ _ _ h => h) (Or.inl ⟨by rfl, ?_⟩) hHeld ?_ ?_
  rotate_left
  · rintro w' ⟨s0, s1⟩
    go_simp; with_reducible rfl
  rotate_left; · simp only [Act.put, pA, pB, pC, pD, pE]; rfl
  refine take_ (i := 9) (N := some 41) (v := ?_) (a' := ?_) (bA 18 2047) rfl rfl (take_ofW HT_.out HW_.out (by kernel_rfl)) (fun _ _ _ h => h) (Or.inl ⟨by rfl, ?_⟩) hHeld ?_ ?_
  rotate_left
  · rintro w' ⟨s0, s1⟩
    go_simp; with_reducible rfl
  rotate_left; · simp only [Act.put, pA, pB, pC, pD, pE]; rfl
  refine one_ (i := 11) (N := some 43) (bA 18 4095) rfl rfl (one_of HT_.out (by kernel_rfl)) (by decide) (fun K hK => ?_)
  refine value_ (w1 := ?_) (v := ?_) (by rfl) rfl ?_ ?_
  rotate_left 2
  · go_simp
    constructor
    · rfl
    · rfl
  refine hK.out _ _ ⟨(HS2.out.al.drew.cell 3 rfl), (HS2.out.al.drew.cell 4 rfl)⟩ (fun hHeld => ?_)
  clear hK K
  refine norm_ (a' := ?_) ?_ ?_
  rotate_left
  · show Act.put _ (some 43) _ = _
    simp only [Act.put, pA, pB, pC, pD, pE]; rfl
  refine one_ (i := 12) (N := some 44) (bA 18 8191) rfl rfl (one_of HT_.out (by kernel_rfl)) (by decide) (fun K hK => ?_)
  refine step_append_lies _ (by rfl) (.tmp 41) (.tmp 43) 25 (by rfl) base 3 i0 (.int .i64 0) 1 8 Try.underlying25 hi0 hz0 hz1 hz2 rfl (by omega) ov S.opn.length (nats S.opn.reverse) (by rfl) ((HO.out.alloc _).drew) ⟨W.heap.size, 0, none⟩ 1 1 [.int .i64 v] (by rfl) rfl (cell_one_new _ _ _) (by simp [Value.oneCell']) (by omega) (by unfold maxLen; omega) (by omega) (by have := HB.out; simp; omega) _ rfl ?_
  intro g cap w1 hown hgrow hat hlt
  have hs1 := HS2.out.al.drew.grown hgrow (own_off HO.out HS2.out (by decide))
  have hin1 := HIN.out.al.drew.grown hgrow (own_off HO.out HIN.out (by decide))
  have hr1 := HR.out.al.drew.grown hgrow (own_off HO.out HR.out (by decide))
  have hi1 := HI2.out.al.drew.grown hgrow (own_under HO.out HL.out.b2)
  have hl1 := HLO.out.al.drew.grown hgrow (own_under HO.out HL.out.b3)
  have hc1 := HC.out.al.drew.grown hgrow (own_under HO.out HL.out.b5)
  have he1 := (HE.out.alloc (Nat.le_trans (by have := HL.out.a1; have := HL.out.b1; omega) HB.out) (.cells #[.int .i64 v] 3)).drew.grown ((HO.out.alloc _).drew) hgrow (by have := HL.out.a1; have := HL.out.b1; omega) (by have := HL.out.a1; have := HL.out.b1; have := HB.out; simp; omega)
  have HR3 := Lib.hid hr1; have HI3 := Lib.hid hi1; have HLO3 := Lib.hid hl1; have HC3 := Lib.hid hc1; have HE3 := Lib.hid he1; clear hr1 hi1 hl1 hc1 he1
  have x4 := hs1.free 4
  have e5 := hin1.cell v (bls_at _ HNV.out)
  have x5 := hin1.free v
  have HS3 := Lib.hid hs1; have HIN3 := Lib.hid hin1; have HGR := Lib.hid hgrow; have HOW := Lib.hid hown; have e40 := hs1.cell 4 rfl; clear hs1 hin1 hgrow hown hat
  refine hK.out _ _ ⟨(HS3.out.cell 3 rfl), (HS3.out.cell 4 rfl)⟩ (fun hHeld => ?_)
  clear hK K
  refine norm_ (a' := ?_) ?_ ?_
  rotate_left
  · show Act.put _ (some 44) _ = _
    simp only [Act.put, pA, pB, pC, pD, pE]; rfl
  refine pure_ (i := 13) (N := some 45) (v := ?_) (a' := ?_) (bA 18 16383) rfl rfl (any_of HT_.out (by kernel_rfl)) (fun _ _ _ h => h) (Or.inl ⟨by rfl, ?_⟩) ?_ ?_
  rotate_left; · intro w'; go_simp; with_reducible rfl
  rotate_left; · simp only [Act.put, pA, pB, pC, pD, pE]; rfl
  refine pure_ (i := 14) (N := some 46) (v := ?_) (a' := ?_) (bA 18 32767) rfl rfl (any_of HT_.out (by kernel_rfl)) (fun _ _ _ h => h) (Or.inl ⟨by rfl, ?_⟩) ?_ ?_
  rotate_left; · intro w'; go_simp; with_reducible rfl
  rotate_left; · simp only [Act.put, pA, pB, pC, pD, pE]; rfl
  refine last_ (i := 15) (N := none) (bA 18 65535) rfl rfl (one_of HT_.out (by kernel_rfl)) (by decide) (fun K hK => ?_)
  refine skip_ (w1 := ?_) (by rfl) rfl ?_ ?_
  rotate_left; · go_simp; rfl
  refine hK.out _ _ ?_; clear hK K
  refine pure_ (i := 16) (N := some 47) (v := ?_) (a' := ?_) (bA 18 131071) rfl rfl (any_of HT_.out (by kernel_rfl)) (fun _ _ _ h => h) (Or.inl ⟨by rfl, ?_⟩) ?_ ?_
  rotate_left; · intro w'; go_simp; with_reducible rfl
  rotate_left; · simp only [Act.put, pA, pB, pC, pD, pE]; rfl
  refine last_ (i := 17) (N := none) (bA 18 262143) rfl rfl (one_of HT_.out (by kernel_rfl)) (by decide) (fun K hK => ?_)
  refine skip_ (w1 := ?_) (by rfl) rfl ?_ ?_
  rotate_left; · go_simp; rfl
  refine hK.out _ _ ?_; clear hK K
  refine done_ (done_of HT_.out (by kernel_rfl)) ?_
  clear hHeld HT_ HW_
  refine gen_then (fun W2 => Srch W2 base gs gg bi bl bn bc n (.slice (some ⟨g, 0, none⟩) (S.opn.length + 1) cap) (enterS S v) ∧ Ext G w W2 ∧ At W2 w.heap.size [.int .i64 0, .int .i64 0] 137) ?_ ?_
  · have L := HL.out
    have hS := HS.out
    have ho := HOW.out
    rw [nats_snoc] at ho
    have o4 : base ≤ g := (ho.lt g rfl).1
    refine ⟨⟨(HS3.out.put rfl).off L.n3, (HI3.out.off L.n1.symm).off L.n6, (HLO3.out.off L.n2.symm).off L.n8, (HIN3.out.off L.n3.symm).put (bls_set _ _ _).symm, (HC3.out.off L.n4.symm).off L.n10.symm, ?_, ?_, ?_, ?_, ?_⟩, ?_, ?_⟩
    · have := (ho.setB L.b1 (i := 4) (u := .slice (some ⟨g, 0, none⟩) (S.opn.length + 1) cap)).setB L.b4 (i := v) (u := .bool true)
      simpa [enterS] using this
    · simpa [enterS] using hS.hil
    · simpa [enterS] using hS.hll
    · simpa [enterS] using hS.hnl
    · simpa [enterS] using hS.hcl
    · exact (HE3.out.set HS3.out L.a1 (by decide) _ _).set (HIN3.out.off L.n3.symm) L.a4 (by decide) _ _
    · exact (HR3.out.off ((HS3.out.ne HR3.out (by decide)).symm)).off ((HIN3.out.ne HR3.out (by decide)).symm)
  clear x4 e5 x5 e40 c3 c4 f4 cn fn c0r c1r f0r f1r HS3 HIN3 HGR HOW HR3 HI3 HLO3 HC3 HE3 l1 l4 q1 q4 hlt
  rintro W2 ⟨hS2, hE2, hr2⟩
  have c0r := hr2.cell 0 rfl
  have c1r := hr2.cell 1 rfl
  have f0r := hr2.free 0
  have f1r := hr2.free 1
  have HS2' := Lib.hid hS2
  have HE2' := Lib.hid hE2
  have HR2 := Lib.hid hr2
  clear hS2 hE2 hr2
  go_wp2
  have hk : base ≤ w.heap.size := HBW.out
  have ho := own_off HS2'.out.ho HR2.out (by decide)
  have hG : G ≤ w.heap.size := by have := HL.out.a1; have := HL.out.b1; omega
  refine bodyPost_ret (v := .agg #[.int .i64 v, .int .i64 0]) (by simp [results, Try.results100, go_sem, c0r, c1r]) rfl ⟨rfl, .slice (some ⟨g, 0, none⟩) (S.opn.length + 1) cap, ?_, ?_⟩
  · exact (HS2'.out.beside HL.out hk ho _).beside HL.out hk ho _
  · exact (HE2'.out.fresh (Nat.le_refl _) hG _ _).fresh (Nat.le_refl _) hG _ _
end Go.Proofs.Ythomnpgpbhpojaa.Scc
