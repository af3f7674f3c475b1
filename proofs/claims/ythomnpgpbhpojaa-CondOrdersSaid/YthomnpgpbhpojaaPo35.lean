/- awake: the document's example. -/
import Derived.Test.YthomnpgpbhpojaaPo34
import Derived.Test.YthomnpgpbhpojaaRows
import Derived.ProofKit
import Derived.OpenShut
import Derived.Carry
import Derived.Deep.SlicePairs
import Derived.Test.YthomnpgpbhpojaaPo12
import Derived.Test.YthomnpgpbhpojaaPo22
import Derived.Test.YthomnpgpbhpojaaPo5
import Derived.Sort.Grow
namespace Go.Proofs.Ythomnpgpbhpojaa.Cd
open Go Go.RowKit Go.MapKept Go.Proofs.Ythomnpgpbhpojaa.Mem Go.Proofs.Ythomnpgpbhpojaa.Sl Go.Proofs.Ythomnpgpbhpojaa.Scc Go.Proofs.Ythomnpgpbhpojaa.Tj Go.Proofs.Ythomnpgpbhpojaa.Lw Go.Proofs.Ythomnpgpbhpojaa.Pt Go.Proofs.YthomnpgpbhpojaaW.PrintWords Go.Proofs.YthomnpgpbhpojaaW.PrintLast
attribute [local go_sem ↓] Go.wp_at_zero Go.wp_at_succ
set_option linter.unusedSimpArgs false
set_option linter.unusedVariables false

def AwS (w W : World) (gc : Nat) (vs : List Int) (es : List (Int × Int × Int)) : Prop :=
  ∃ lk arcs cls row cb, CdE W gc lk arcs cls row cb ∧ Sy arcs cls vs es ∧ (∀ k, cb k → w.heap.size ≤ k) ∧ Below w.heap.size w W
section
variable {w W W' : World} {gc : Nat} {vs : List Int} {es : List (Int × Int × Int)} {e u v : Int}
theorem aw_step {arcs' : Int → Option (Int × Int)} {cls' : Int → Option Nat} {row' : Nat → List Int} {cb cb' : Nat → Prop} {lk' : Int} {vs' : List Int} {es' : List (Int × Int × Int)} (hn : ∀ k, cb k → w.heap.size ≤ k) (hb : Below w.heap.size w W) (hk : Kpt cb W W') (hc : CdE W' gc lk' arcs' cls' row' cb') (hcb : ∀ k, cb' k → ext cb W W' k) (hS : Sy arcs' cls' vs' es') : AwS w W' gc vs' es' :=
  ⟨lk', arcs', cls', row', cb', hc, hS, fun k hk => (hcb k hk).elim (hn k) fun h => Nat.le_trans hb.size h.1, hb.trans (hk.to_below fun k hk => ⟨Nat.lt_of_lt_of_le hk hb.size, fun hx => by have := hn k hx; omega⟩)⟩
theorem aw_new (w : World) : Calls Try.prog 5 #[] w fun e w' => ∃ gc, e = .returned (.pointer (some ⟨gc, 0, none⟩)) ∧ AwS w w' gc [] [] ∧ CdE w' gc 0 (fun _ => none) (fun _ => none) (fun _ => []) (fun k => w.heap.size ≤ k ∧ k < w'.heap.size) :=
  (cNew w).mono fun e w' ⟨gc, ga, go, gi, gp, gm, tg, he, hb, hc⟩ => ⟨gc, he, ⟨0, _, _, _, _, ⟨_, _, _, _, _, _, _, _, _, _, hc⟩, Sy.new, fun k hk => hk.1, hb⟩, ⟨_, _, _, _, _, _, _, _, _, _, hc⟩⟩
theorem aw_dead {arcs : Int → Option (Int × Int)} {cls : Int → Option Nat} (h : Sy arcs cls vs es) (hv : v ∉ vs) : cls v = none := by
  cases hx : cls v with
  | none => rfl
  | some b => exact absurd ((h.cv v).1 (by rw [hx]; simp)) hv
theorem aw_addv (h : AwS w W gc vs es) (hv : v ∉ vs) : Calls Try.prog 12 #[.pointer (some ⟨gc, 0, none⟩), .int .i64 v] W fun e W' => e = .returned (.bool true) ∧ AwS w W' gc (sorted (vs ++ [v])) es := by
  obtain ⟨lk, arcs, cls, row, cb, ⟨ga, go, gi, gp, gm, ob, ib, val, tg, pb, hc⟩, hS, hn, hb⟩ := h
  exact (addv_calls hc v (aw_dead hS hv)).mono fun e' W' ⟨he, hk, ob', ib', cls', row', val', tg', pb', hnv, hc'⟩ => ⟨he, aw_step hn hb hk ⟨_, _, _, _, _, _, _, _, _, _, hc'⟩ (fun k hk => hk) (hS.addv hv hnv)⟩
theorem aw_again (h : AwS w W gc vs es) (hv : v ∈ vs) : Calls Try.prog 12 #[.pointer (some ⟨gc, 0, none⟩), .int .i64 v] W fun e W' => e = .returned (.bool false) ∧ AwS w W' gc vs es := by
  have h0 := h
  obtain ⟨lk, arcs, cls, row, cb, ⟨ga, go, gi, gp, gm, ob, ib, val, tg, pb, hc⟩, hS, hn, hb⟩ := h
  exact (addv_no hc v ((hS.cv v).2 hv)).mono fun e' W' ⟨he, hw⟩ => ⟨he, hw ▸ h0⟩
theorem aw_adda (h : AwS w W gc vs es) (hvl : vs.length ≤ 400) (hel : es.length ≤ 400) (he : ∀ p ∈ es, p.1 ≠ e) (hu : u ∈ vs) (hv : v ∈ vs) : Calls Try.prog 13 #[.pointer (some ⟨gc, 0, none⟩), .int .i64 e, .int .i64 u, .int .i64 v] W fun en W' => en = .returned (.int .i64 0) ∧ AwS w W' gc vs (es ++ [(e, u, v)]) := by
  obtain ⟨lk, arcs, cls, row, cb, ⟨ga, go, gi, gp, gm, ob, ib, val, tg, pb, hc⟩, hS, hn, hb⟩ := h
  exact (adda_calls hc vs (fun x hx => (hS.cv x).1 hx) (by omega) e u v (hS.noarc he) ((hS.cv u).2 hu) ((hS.cv v).2 hv) ⟨es.map (·.1), by rw [List.length_map]; omega, hS.keys⟩).mono fun e' W' ⟨he1, hk, lk', cls', row', val', pb', hc', hP⟩ => ⟨he1, aw_step hn hb hk ⟨_, _, _, _, _, _, _, _, _, _, hc'⟩ (fun k hk => hk) (hS.adda he hu hv hP)⟩
theorem aw_dela (h : AwS w W gc vs es) (he : ∀ p ∈ es, p.1 ≠ e) : Calls Try.prog 14 #[.pointer (some ⟨gc, 0, none⟩), .int .i64 e] W fun en W' => en = .returned (.int .i64 6) ∧ Below W.heap.size W W' := by
  obtain ⟨lk, arcs, cls, row, cb, ⟨ga, go, gi, gp, gm, ob, ib, val, tg, pb, hc⟩, hS, hn, hb⟩ := h
  exact dela_no hc e (hS.noarc he)
theorem aw_mut (h : AwS w W gc vs es) (hvl : vs.length ≤ 400) (hv : ∀ x, x ∈ vs ↔ x = 1 ∨ x = 2) {e1 e2 : Int} (h1 : (e1, 1, 2) ∈ es) (h2 : (e2, 2, 1) ∈ es) :
    Calls Try.prog 20 #[.pointer (some ⟨gc, 0, none⟩), .int .i64 2] W (fun en W' => en = .returned (.tuple #[.int .i64 1, .bool true]) ∧ W' = W) ∧
    Calls Try.prog 10 #[.pointer (some ⟨gc, 0, none⟩), .int .i64 1, .int .i64 2] W (fun en W' => en = .returned (.bool true) ∧ Below W.heap.size W W') := by
  obtain ⟨lk, arcs, cls, row, cb, hE, hS, hn, hb⟩ := h
  have hro := hE.rowOk
  obtain ⟨ga, go, gi, gp, gm, ob, ib, val, tg, pb, hc⟩ := hE
  have c1 := (hS.cv 1).2 ((hv 1).2 (.inl rfl))
  have c2 := (hS.cv 2).2 ((hv 2).2 (.inr rfl))
  have heq : cls 1 = cls 2 := (hS.pi 1 2 c1 c2).2 ⟨.step .base ⟨e1, (hS.ae e1 1 2).2 h1⟩, .step .base ⟨e2, (hS.ae e2 2 1).2 h2⟩⟩
  obtain ⟨b, hb2⟩ := Option.ne_none_iff_exists'.1 c2
  obtain ⟨hm, hnd⟩ := hro 2 b hb2
  have hne : row b ≠ [] := fun e => by
    have := (hm 2).2 hb2
    rw [e] at this
    cases this
  obtain ⟨m1, m2⟩ := minOf_head hne
  have hmin : headV cls row 2 = 1 := by
    have h3 : headV cls row 2 = Lib.minOf (row b) := by unfold headV; rw [hb2]
    have h4 := (hv _).1 ((hS.cv _).1 (by rw [(hm _).1 m1]; simp))
    have h5 := m2 1 ((hm 1).2 (heq.trans hb2))
    rw [h3]
    omega
  have hrl : ∀ v b, cls v = some b → (row b).length ≤ 500000 := fun v b hv' => by
    obtain ⟨h1, h2⟩ := hro v b hv'
    have := nodup_le h2 fun x hx => (hS.cv x).1 (by rw [(h1 x).1 hx]; simp)
    omega
  have hH := cHead hc 2 hrl
  rw [hmin, hb2, Option.isSome_some] at hH
  have hSm := cSame hc 1 2
  rw [show sameV cls 1 2 = true from decide_eq_true ⟨c1, heq⟩] at hSm
  exact ⟨hH, hSm⟩
end
set_option maxHeartbeats 8000000 in
set_option maxRecDepth 100000 in
theorem awake_calls (w : World) : Calls Try.prog 6 #[] w fun e w' => e = .returned (.bool true) ∧ Below w.heap.size w w' := by
  have HN := Lib.hid (aw_new w)
  go_enter Try.func6, Try.ntmps6
  go_wp2_with fail
  refine HN.out.mono ?_
  clear HN
  rintro e w1 ⟨gc, rfl, hA, _⟩
  have HA := Lib.hid hA
  clear hA
  go_wp2_with fail
  refine (aw_addv HA.out (v := 1) (by simp)).mono ?_
  clear HA
  rintro e w2 ⟨rfl, hA⟩
  have HA := Lib.hid hA
  clear hA
  go_wp2_with fail
  refine (aw_addv HA.out (v := 2) (by simp [sorted, List.mem_mergeSort])).mono ?_
  clear HA
  rintro e w3 ⟨rfl, hA⟩
  have hmem : ∀ x : Int, x ∈ sorted (sorted ([] ++ [(1 : Int)]) ++ [2]) ↔ x = 1 ∨ x = 2 := fun x => by simp [sorted, List.mem_mergeSort]
  have hlen : (sorted (sorted ([] ++ [(1 : Int)]) ++ [2])).length ≤ 400 := by rw [sorted_length]; simp [sorted_length]
  obtain ⟨V, hV⟩ : ∃ V, sorted (sorted ([] ++ [(1 : Int)]) ++ [2]) = V := ⟨_, rfl⟩
  rw [hV] at hA hmem hlen
  have HA := Lib.hid hA
  have HM := Lib.hid (And.intro hmem hlen)
  clear hA hV hmem hlen
  go_wp2_with fail
  refine (aw_again HA.out (v := 2) ((HM.out.1 2).2 (.inr rfl))).mono ?_
  clear HA
  rintro e w4 ⟨rfl, hA⟩
  have HA := Lib.hid hA
  clear hA
  go_wp2_with fail
  refine (aw_adda HA.out HM.out.2 (by simp) (by simp) ((HM.out.1 1).2 (.inl rfl)) ((HM.out.1 2).2 (.inr rfl))).mono ?_
  clear HA
  rintro e w5 ⟨rfl, hA⟩
  have HA := Lib.hid hA
  clear hA
  go_wp2_with fail
  refine (aw_adda HA.out HM.out.2 (by simp) (by simp) ((HM.out.1 2).2 (.inr rfl)) ((HM.out.1 1).2 (.inl rfl))).mono ?_
  clear HA
  rintro e w6 ⟨rfl, hA⟩
  have hT := aw_mut hA HM.out.2 HM.out.1 (e1 := 10) (e2 := 11) (by simp) (by simp)
  have hD := aw_dela hA (e := 12) (by simp)
  obtain ⟨lk, arcs, cls, row, cb, hc, hS, hn, hb⟩ := id hA
  have HA := Lib.hid (And.intro hA hb)
  have HT := Lib.hid hT
  clear hA hT hD hc hS hn hb lk arcs cls row cb
  go_wp2_with fail
  refine HT.out.1.mono ?_
  rintro e w7 ⟨rfl, rfl⟩
  go_wp2_with fail
  refine HT.out.2.mono ?_
  rintro e w8 ⟨rfl, hb8⟩
  have HB := Lib.hid (HA.out.2.trans (hb8.mono HA.out.2.size))
  have HD := Lib.hid (show Calls Try.prog 14 #[.pointer (some ⟨gc, 0, none⟩), .int .i64 12] w8 (fun en W' => en = .returned (.int .i64 6) ∧ Below w8.heap.size w8 W') from by
    obtain ⟨lk, arcs, cls, row, cb, hc, hS, hn, hb⟩ := HA.out.1
    exact aw_dela (w := w) ⟨lk, arcs, cls, row, cb, hc.below hb8, hS, hn, hb.trans (hb8.mono hb.size)⟩ (by simp))
  clear hb8 HA HT
  go_wp2_with fail
  refine HD.out.mono ?_
  clear HD
  rintro e w9 ⟨rfl, hb9⟩
  have HZ := Lib.hid (HB.out.trans (hb9.mono HB.out.size))
  clear hb9 HB
  go_wp2
  go_ret
  exact ⟨rfl, HZ.out⟩
end Go.Proofs.Ythomnpgpbhpojaa.Cd

/- A script in memory; what is known ahead of each of its calls. -/
namespace Go.Proofs.Ythomnpgpbhpojaa.Cd
open Go Go.RowKit Go.MapKept Go.Proofs.Ythomnpgpbhpojaa.Mem Go.Proofs.Ythomnpgpbhpojaa.Sl Go.Proofs.Ythomnpgpbhpojaa.Scc Go.Proofs.Ythomnpgpbhpojaa.Tj Go.Proofs.Ythomnpgpbhpojaa.Lw Go.Proofs.Ythomnpgpbhpojaa.Pt Go.Proofs.YthomnpgpbhpojaaW.PrintWords Go.Proofs.YthomnpgpbhpojaaW.PrintLast
attribute [local go_sem ↓] Go.wp_at_zero Go.wp_at_succ
set_option linter.unusedSimpArgs false
set_option linter.unusedVariables false

theorem add_add {ad : Addr} (x k : Nat) (hk : k ≠ 0) : ad.add (x + k) = ⟨(ad.add x).block, (ad.add x).off + k, none⟩ := by
  unfold Addr.add
  rw [if_neg (by omega)]
  by_cases h : x = 0
  · subst h
    simp
  · simp [h, Nat.add_assoc]
def RdO (w : World) (A : Option Addr) (l : List (Int × Int × Int × Int)) : Prop := ∀ (j : Nat) (k e u v : Int), l[j]? = some (k, e, u, v) → ∃ ad : Addr, A = some ad ∧ w.cell? (ad.add (j * 4)) = some (.int .i64 k) ∧ w.cell? ⟨(ad.add (j * 4)).block, (ad.add (j * 4)).off + 1, none⟩ = some (.int .i64 e) ∧ w.cell? ⟨(ad.add (j * 4)).block, (ad.add (j * 4)).off + 2, none⟩ = some (.int .i64 u) ∧ w.cell? ⟨(ad.add (j * 4)).block, (ad.add (j * 4)).off + 3, none⟩ = some (.int .i64 v)
theorem cell_keep {w w' : World} {a : Addr} {v : Value} (hb : Below w.heap.size w w') (h : w.cell? a = some v) : w'.cell? a = some v := (hb.cell (World.block_lt_of_cell? w _ h)).trans h
theorem RdO.below {w w' : World} {A : Option Addr} {l : List (Int × Int × Int × Int)} (h : RdO w A l) (hb : Below w.heap.size w w') : RdO w' A l := fun j k e u v hx => by
  obtain ⟨ad, h1, h2, h3, h4, h5⟩ := h j k e u v hx
  exact ⟨ad, h1, cell_keep hb h2, cell_keep hb h3, cell_keep hb h4, cell_keep hb h5⟩
structure Sc (w W : World) (gc gB : Nat) (j : Nat) (G : Gp) (lk : Int) (arcs : Int → Option (Int × Int)) (cls : Int → Option Nat) (row : Nat → List Int) (cb : Nat → Prop) (vs : List Int) (es : List (Int × Int × Int)) : Prop where
  p : Pre W gc lk arcs cls row cb G vs es
  at_ : At W gB [.slice G.A G.n G.c, .slice G.E G.m G.ce, .int .i64 0, .int .i64 G.gw] 28
  nb : ¬ cb gB
  ge : ∀ k, cb k → w.heap.size ≤ k
  gb : w.heap.size ≤ gB
  b : Below w.heap.size w W
  lv : vs.length ≤ j
  le : es.length ≤ j
section
variable {w W W' : World} {gc gB j : Nat} {G : Gp} {lk : Int} {arcs : Int → Option (Int × Int)} {cls : Int → Option Nat} {row : Nat → List Int} {cb : Nat → Prop} {vs : List Int} {es : List (Int × Int × Int)}
theorem Sc.below (h : Sc w W gc gB j G lk arcs cls row cb vs es) (hb : Below W.heap.size W W') : Sc w W' gc gB j G lk arcs cls row cb vs es :=
  ⟨h.p.below hb, h.at_.below hb h.at_.lt, h.nb, h.ge, h.gb, h.b.trans (hb.mono h.b.size), h.lv, h.le⟩
end
end Go.Proofs.Ythomnpgpbhpojaa.Cd

/- A script of calls as an argument. -/
namespace Go.Proofs.Ythomnpgpbhpojaa.Cd
open Go Go.RowKit Go.ChangeShapes Go.WideShapes Go.ChangeAt Go.Deep Go.Proofs.Ythomnpgpbhpojaa.Mem
set_option linter.unusedSimpArgs false
set_option linter.unusedVariables false

theorem own : ownKnob Try.prog.godebug = none := by kernel_rfl
theorem laidOut : laidOutB Try.prog = true := by kernel_rfl
theorem cells_int : Try.prog.cellsOf 3 = 1 := by kernel_rfl
theorem cells_op : Try.prog.cellsOf 32 = 4 := by kernel_rfl
theorem op_fields : ∃ f0 f1 f2 f3 : Field, Try.prog.underlying 32 = some (.struct #[f0, f1, f2, f3]) ∧ (f0.offset = 0 ∧ f1.offset = 1 ∧ f2.offset = 2 ∧ f3.offset = 3) ∧ f0.type = 3 ∧ f1.type = 3 ∧ f2.type = 3 ∧ f3.type = 3 :=
  ⟨_, _, _, _, Try.underlying32, ⟨rfl, rfl, rfl, rfl⟩, rfl, rfl, rfl, rfl⟩

section
variable {H : Type} {enc : TypeId × Value → H} {W : World} {base : Nat} {v : Value} {d : DataW H} {p : List MemPlace}
set_option maxRecDepth 100000 in
theorem ops_in (hv : Value.okWide Try.prog W .any base 22 v) (h : DataW.Trod enc Try.prog W 0 (fun _ => true) true 22 v d p) : ∃ (l : List (Int × Int × Int × Int)) (A : Option Addr) (c : Nat), v = .slice A l.length c ∧ RdO W A l := by
  obtain ⟨a0, len, cap, rfl⟩ := okWide_slice Try.underlying22 hv
  obtain ⟨fuel, hf⟩ := h
  obtain ⟨f0, f1, f2, f3, hu, ⟨o0, o1, o2, o3⟩, t0, t1, t2, t3⟩ := op_fields
  rcases open_slice Try.underlying22 hf with ⟨hcs, hx⟩ | ⟨a, len', cap', m, n, D, Pl, hcs, _, hl, hm, hmm, hx, hcell⟩
  · simp [Value.cells] at hcs
    obtain ⟨rfl, rfl, rfl⟩ := hcs
    exact ⟨[], none, 0, rfl, fun j k e u v hx => by simp at hx⟩
  · simp [Value.cells] at hcs
    obtain ⟨rfl, rfl, rfl⟩ := hcs
    simp only [if_true] at hmm
    have num : ∀ i, i < m → ∃ q : Int × Int × Int × Int, W.cell? (a.add (i * 4)) = some (.int .i64 q.1) ∧ W.cell? (a.add (i * 4 + 1)) = some (.int .i64 q.2.1) ∧ W.cell? (a.add (i * 4 + 2)) = some (.int .i64 q.2.2.1) ∧ W.cell? (a.add (i * 4 + 3)) = some (.int .i64 q.2.2.2) := by
      intro i hi
      obtain ⟨cs', h1, h2⟩ := hcell i hi
      rw [cells_op] at h1
      obtain ⟨_, hlen, hc⟩ := World.cells?_some h1
      obtain ⟨xs, k, hk, hxy, _, hxl, hf⟩ := DataW.trod_struct hu h2
      match xs, hxl, cs', hlen with
      | [y0, y1, y2, y3], _, [v0, v1, v2, v3], _ =>
        have g0 := hf 0 f0 rfl
        have g1 := hf 1 f1 rfl
        have g2 := hf 2 f2 rfl
        have g3 := hf 3 f3 rfl
        simp [o0, o1, o2, o3, t0, t1, t2, t3, cells_int] at g0 g1 g2 g3
        have e0 := hc 0 (by omega)
        have e1 := hc 1 (by omega)
        have e2 := hc 2 (by omega)
        have e3 := hc 3 (by omega)
        rw [Go.Deep.add_add] at e0 e1 e2 e3
        obtain ⟨x0, hx0, _⟩ := DataW.trod_int Try.underlying3 g0
        obtain ⟨x1, hx1, _⟩ := DataW.trod_int Try.underlying3 g1
        obtain ⟨x2, hx2, _⟩ := DataW.trod_int Try.underlying3 g2
        obtain ⟨x3, hx3, _⟩ := DataW.trod_int Try.underlying3 g3
        cases hx0
        cases hx1
        cases hx2
        cases hx3
        exact ⟨(x0, x1, x2, x3), by simpa using e0, by simpa using e1, by simpa using e2, by simpa using e3⟩
    obtain ⟨q, hq⟩ := choose_lt num
    refine ⟨(List.range len).map q, some a, cap, by simp, fun j k e u v hx => ?_⟩
    rw [List.getElem?_map] at hx
    have hj : j < len := by
      rcases Nat.lt_or_ge j len with h | h
      · exact h
      · rw [List.getElem?_eq_none (by simpa using h)] at hx
        cases hx
    rw [List.getElem?_range hj] at hx
    have hqe : q j = (k, e, u, v) := by simpa using hx
    obtain ⟨h0, h1, h2, h3⟩ := hq j (by omega)
    rw [hqe] at h0 h1 h2 h3
    exact ⟨a, rfl, h0, add_add (ad := a) (j * 4) 1 (by omega) ▸ h1, add_add (ad := a) (j * 4) 2 (by omega) ▸ h2, add_add (ad := a) (j * 4) 3 (by omega) ▸ h3⟩
end
end Go.Proofs.Ythomnpgpbhpojaa.Cd

/- One call of a script more. -/
namespace Go.Proofs.Ythomnpgpbhpojaa.Cd
open Go Go.RowKit Go.MapKept Go.Proofs.Ythomnpgpbhpojaa.Mem Go.Proofs.Ythomnpgpbhpojaa.Sl Go.Proofs.Ythomnpgpbhpojaa.Scc Go.Proofs.Ythomnpgpbhpojaa.Tj Go.Proofs.Ythomnpgpbhpojaa.Lw Go.Proofs.Ythomnpgpbhpojaa.Pt
set_option linter.unusedSimpArgs false
set_option linter.unusedVariables false

section
variable {w W W' : World} {gc gB j : Nat} {G : Gp} {lk : Int} {arcs : Int → Option (Int × Int)} {cls : Int → Option Nat} {row : Nat → List Int} {cb : Nat → Prop} {vs : List Int} {es : List (Int × Int × Int)} {k e u v : Int}
theorem Sc.play_below {w6 : World} {G' : Gp} (h : Sc w W gc gB j G lk arcs cls row cb vs es) (hP : PlayPost W gc lk cls row cb vs es k e u v w6 G') : Below w.heap.size w w6 ∧ At w6 gB [.slice G.A G.n G.c, .slice G.E G.m G.ce, .int .i64 0, .int .i64 G.gw] 28 := by
  obtain ⟨_, _, _, _, _, _, _, _, _, _, hK, _⟩ := hP
  exact ⟨(h.b).trans (hK.to_below fun k hk => ⟨Nat.lt_of_lt_of_le hk h.b.size, fun hx => by have := h.ge k hx; omega⟩), h.at_.kept hK h.nb⟩
theorem Sc.next2 {w6 W7 : World} {G' : Gp} (h : Sc w W gc gB j G lk arcs cls row cb vs es) (hP : PlayPost W gc lk cls row cb vs es k e u v w6 G') (hj : j < 60) (hk : Kpt (fun x => x = gB) w6 W7) (hat : At W7 gB [.slice G'.A G'.n G'.c, .slice G'.E G'.m G'.ce, .int .i64 0, .int .i64 G'.gw] 28) :
    ∃ lk' arcs' cls' row' cb' vs' es', Sc w W7 gc gB (j + 1) G' lk' arcs' cls' row' cb' vs' es' ∧ (∀ x, cb' x → cb x ∨ W.heap.size ≤ x) ∧ Kpt cb W w6 := by
  obtain ⟨hB6, hg6⟩ := h.play_below hP
  obtain ⟨vs', es', lk', arcs', cls', row', cb', hC, hS, hG, hK, hcb, hl1, hl2, hB⟩ := hP
  have hcb' : ∀ x, cb' x → cb x ∨ (W.heap.size ≤ x ∧ x < w6.heap.size) := hcb
  have hno : ∀ x, x < W.heap.size → ¬ cb x → ¬ cb' x := fun x hx hn hc => (hcb' x hc).elim hn fun h => by omega
  have hnB := hno gB h.at_.lt h.nb
  have hlv := h.lv
  have hle := h.le
  have hgq : GrO w6 (fun x => cb' x ∨ x = gB) G' vs' es' := ⟨hG.rv, hG.nv, fun x hx hq => hq.elim (hG.qv x hx) fun e => own_off hG.rv hg6 (by decide) (e ▸ hx.symm), hG.re, hG.ne, fun x hx hq => hq.elim (hG.qe x hx) fun e => own_off hG.re hg6 (by decide) (e ▸ hx.symm)⟩
  have hB7 : Below w.heap.size w W7 := hB6.trans (hk.to_below fun k hk => ⟨by have := hB6.size; omega, fun hx => by have := h.gb; omega⟩)
  exact ⟨lk', arcs', cls', row', cb', vs', es', ⟨⟨hC.kept hk fun x hx e => hnB (e ▸ hx), hS, (hgq.kept hk fun x hx => .inr hx).mono fun x _ hx => .inl hx, by omega, by omega⟩, hat, hnB, fun x hx => (hcb' x hx).elim (h.ge x) fun h2 => by have := h.b.size; omega, h.gb, hB7, by omega, by omega⟩, fun x hx => (hcb' x hx).imp id And.left, hK⟩
theorem Sc.next {w6 W7 : World} {G' : Gp} (h : Sc w W gc gB j G lk arcs cls row cb vs es) (hP : PlayPost W gc lk cls row cb vs es k e u v w6 G') (hj : j < 60) (hk : Kpt (fun x => x = gB) w6 W7) (hat : At W7 gB [.slice G'.A G'.n G'.c, .slice G'.E G'.m G'.ce, .int .i64 0, .int .i64 G'.gw] 28) :
    ∃ lk' arcs' cls' row' cb' vs' es', Sc w W7 gc gB (j + 1) G' lk' arcs' cls' row' cb' vs' es' := by
  obtain ⟨lk', arcs', cls', row', cb', vs', es', hS, _⟩ := h.next2 hP hj hk hat
  exact ⟨lk', arcs', cls', row', cb', vs', es', hS⟩
end
end Go.Proofs.Ythomnpgpbhpojaa.Cd

/- Heads of the parts, and of the index. -/
namespace Go.Proofs.Ythomnpgpbhpojaa.Cd
open Go Go.RowKit Go.MapKept Go.Proofs.Ythomnpgpbhpojaa.Mem Go.Proofs.Ythomnpgpbhpojaa.Sl Go.Proofs.Ythomnpgpbhpojaa.Scc Go.Proofs.Ythomnpgpbhpojaa.Tj Go.Proofs.Ythomnpgpbhpojaa.Lw Go.Proofs.Ythomnpgpbhpojaa.Pt Go.Proofs.YthomnpgpbhpojaaW.PrintWords Go.Proofs.YthomnpgpbhpojaaW.PrintLast
attribute [local go_sem ↓] Go.wp_at_zero Go.wp_at_succ
set_option linter.unusedSimpArgs false
set_option linter.unusedVariables false

section
variable {w w' : World} {gc ga go gi gp gm : Nat} {lk : Int} {arcs : Int → Option (Int × Int)} {ob ib : Int → Nat} {cls : Int → Option Nat} {row : Nat → List Int} {val : Nat → Value} {tg : Nat → Nat × Int} {pb cb : Nat → Prop}
theorem head_calls2 (h : PtS w gp gm cls row val pb) (v : Int) (hl : ∀ v b, cls v = some b → (row b).length ≤ 1000000) :
    Calls Try.prog 44 #[.pointer (some ⟨gp, 0, none⟩), .int .i64 v] w fun e w' => e = .returned (.tuple #[.int .i64 (headV cls row v), .bool (cls v).isSome]) ∧ w' = w := head_calls h v hl
set_option maxHeartbeats 8000000 in
set_option maxRecDepth 100000 in
theorem pheads_calls (h : PtS w gp gm cls row val pb) (V : List Int) (hV : ∀ x, cls x ≠ none → x ∈ V) (hVl : V.length ≤ 1000) :
    Calls Try.prog 38 #[.pointer (some ⟨gp, 0, none⟩)] w fun e w' => ∃ u l, e = .returned u ∧ w'.ownsRow w.heap.size 3 1 u l.length (ints l) ∧ Below w.heap.size w w' ∧ l.Pairwise (· < ·) ∧ ∀ y, y ∈ l ↔ cls y ≠ none ∧ headV cls row y = y := by
  obtain ⟨i1, hi1, hz1, hs1, hy1⟩ := info_parts Lw.info_int
  have hrl : ∀ v b, cls v = some b → (row b).length ≤ 1000000 := fun v b hv => by
    have := nodup_le (h.r.nd v b hv) fun x hx => hV x (by rw [(h.r.mem v b hv x).1 hx]; simp)
    omega
  have q0 := h.hp.cell 0 rfl
  obtain ⟨o, hrun, hMR⟩ := h.hm.range (P := Try.prog) Try.underlying79
  have HX := Lib.hid (And.intro hMR (And.intro hVl hV))
  have HB := Lib.hid ((Below.refl w.heap.size w).alloc (Nat.le_refl _) o)
  have HH := Lib.hid (fun (W : World) (hb : Below w.heap.size w W) (v : Int) => head_calls2 (h.below hb) v hrl)
  clear h hV hVl hMR hrl
  go_enter Try.func38, Try.ntmps38
  go_wp2_with fail
  refine gen_world (fun W => MR W w.heap.size gm (ptf cls) [] ∧ Below w.heap.size w W) ⟨HX.out.1, HB.out⟩ ?_
  obtain ⟨r, hr⟩ : ∃ r, w.heap.size = r := ⟨_, rfl⟩
  have HR := Lib.hid hr
  rw [hr]
  rintro w1 ⟨hM, hb⟩
  rw [← hr] at hb
  have H1 := Lib.hid (And.intro hM hb)
  clear hM hb hr HB hrun q0
  have hdone : ∀ {W : World} {done : List Int}, MR W r gm (ptf cls) done → done.length ≤ V.length := fun hM => nodup_le hM.2.1 fun x hx => by
    obtain ⟨u, hu⟩ := hM.all x hx
    exact HX.out.2.2 x fun e => by rw [ptf_none e] at hu; cases hu
  go_loopg [3] (V.length + 1) (fun kq v3 w' => Hid (∃ done l, done.length + kq = V.length + 1 ∧ l.length ≤ done.length ∧ MR w' r gm (ptf cls) done ∧ w'.ownsRow w.heap.size 3 1 v3 l.length (ints l) ∧ Below w.heap.size w w' ∧ l.Nodup ∧ ∀ y, y ∈ l ↔ y ∈ done ∧ headV cls row y = y))
  case atStart => exact Lib.hid ⟨[], [], by simp, by simp, H1.out.1, World.ownsRow_nil _ _ _ _, H1.out.2, by simp, fun y => by simp⟩
  case round =>
    obtain ⟨done, l, hdk, hdl, hM, ho, hb, hnd0, hl⟩ := hrel.out
    clear hrel H1
    have hdK := hdone hM
    have hK := HX.out.2.1
    rcases hM.next (P := Try.prog) 0 with ⟨hall, hnx⟩ | ⟨a, u, w2, hf, hnd, hnx, hM2, hg, hsz, hent⟩
    · have hmem : ∀ y, y ∈ l ↔ cls y ≠ none ∧ headV cls row y = y := fun y => by
        rw [hl y]
        constructor
        · rintro ⟨h1, h2⟩
          obtain ⟨u, hu⟩ := hM.all y h1
          exact ⟨fun e => (by rw [ptf_none e] at hu; cases hu), h2⟩
        · rintro ⟨h1, h2⟩
          obtain ⟨b, hb'⟩ := Option.ne_none_iff_exists'.1 h1
          exact ⟨hall y _ (ptf_some hb'), h2⟩
      have hS := sort_calls wr w.heap.size u3 l ho (by omega)
      have HS := Lib.hid hS
      have HO := Lib.hid (And.intro ho (And.intro hb (And.intro hnd0 hmem)))
      clear hM ho hb hl hall hdK hdl hdk hnd0 hmem hS
      go_wp2_with fail
      refine HS.out.mono ?_
      clear HS
      rintro e w3 ⟨rfl, ho3, hg⟩
      have HZ := Lib.hid (And.intro ho3 (HO.out.2.1.grown hg HO.out.2.1.size fun k hk => (HO.out.1.lt k hk).1))
      clear ho3 hg
      go_wp2
      go_ret
      refine ⟨_, sorted l, rfl, ?_, HZ.out.2, lt_of_nodup (sorted_rising l) ((List.mergeSort_perm l _).nodup_iff.2 HO.out.2.2.1), fun y => ?_⟩
      · rw [sorted_length]
        exact HZ.out.1
      · rw [← HO.out.2.2.2 y]
        exact List.mem_mergeSort
    · obtain ⟨k1, rfl⟩ : ∃ k1, gk = k1 + 1 := ⟨gk - 1, by omega⟩
      have hb2 : Below w.heap.size w w2 := hb.grown hg hb.size (fun k hk => by cases hk; have := HR.out; omega)
      have ho2 : w2.ownsRow w.heap.size 3 1 u3 l.length (ints l) := ho.kept hg (.inr fun e => mr_own hM ho e.symm)
      have hd2 := hdone hM2
      rw [List.length_append, List.length_singleton] at hd2
      have hll : l.length ≤ 1000 := by omega
      have hHa := HH.out w2 hb2 a
      have HHa := Lib.hid hHa
      have hal : a ∉ l := fun hx => hnd ((hl a).1 hx).1
      by_cases hh : headV cls row a = a
      · have HN := Lib.hid (show (l ++ [a]).Nodup ∧ (∀ z, z ∈ l ++ [a] ↔ z ∈ done ++ [a] ∧ headV cls row z = z) ∧ done.length + (k1 + 1) = V.length + 1 ∧ l.length ≤ done.length from ⟨by
          rw [List.nodup_append]
          exact ⟨hnd0, by simp, fun x hx y hy e => by
            simp only [List.mem_singleton] at hy
            subst hy e
            exact hal hx⟩, fun z => by
          rw [List.mem_append, hl z, List.mem_append, List.mem_singleton]
          constructor
          · rintro (⟨h1, h2⟩ | rfl)
            · exact ⟨.inl h1, h2⟩
            · exact ⟨.inr rfl, hh⟩
          · rintro ⟨h1 | h1, h2⟩
            · exact .inl ⟨h1, h2⟩
            · exact .inr h1, hdk, hdl⟩)
        have HM := Lib.hid (And.intro hM2 (And.intro ho2 hb2))
        rw [hh] at HHa
        clear hM ho hb hl hnd hM2 hg hsz ho2 hb2 hf hdk hdl hdK hd2 hK hHa hal hnd0 hh
        go_wp2_with fail
        refine HHa.out.mono ?_
        clear HHa
        rintro e w3 ⟨rfl, rfl⟩
        go_wp2_with ((at_builtin; refine wpList_append_any rfl (.tmp 25) (.tmp 27) 25 rfl w.heap.size 3 i1 (.int .i64 0) 1 8 Try.underlying25 hi1 hz1 hs1 hy1 rfl (by omega) _ _ _ rfl (HM.out.2.1.alloc (.cells #[.int .i64 a] 3)) _ rfl 1 [.int .i64 a] (RdV.lit _ #[.int .i64 a] 3 1 1 1 rfl (by simp [Value.oneCell'])) (by unfold maxLen; omega) (by omega) (by have := HM.out.2.2.size; simp; omega) ?_; intro v5 w5 ho hg hn; have hMa := HM.out.1.below ((Below.refl _ _).alloc (Nat.le_refl _) (.cells #[.int .i64 a] 3)); have hm5 := hMa.move (w' := w5) (hg.block gm hMa.1.lt (hMa.1.own (HM.out.2.1.alloc (.cells #[.int .i64 a] 3)))) (hg.block r hMa.lt (mr_own hMa (HM.out.2.1.alloc (.cells #[.int .i64 a] 3)))); have hb5 := (HM.out.2.2.alloc HM.out.2.2.size (.cells #[.int .i64 a] 3)).grown hg (by have := HM.out.2.2.size; simp; omega) (fun k hk => (HM.out.2.1.lt k hk).1); have H5 := Lib.hid (And.intro ho (And.intro hm5 hb5)); clear ho hg hn hMa hm5 hb5))
        go_roundg k1
        case measure => omega
        case rel =>
          obtain ⟨ho, hm5, hb5⟩ := H5.out
          obtain ⟨hnew, hmem, hdk, hdl⟩ := HN.out
          exact Lib.hid ⟨done ++ [a], l ++ [a], by rw [List.length_append, List.length_singleton]; omega, by rw [List.length_append, List.length_append, List.length_singleton]; omega, hm5, by rw [List.length_append, ints_app]; exact ho, hb5, hnew, hmem⟩
      · have HN := Lib.hid (show ∃ done' l', done'.length + k1 = V.length + 1 ∧ l'.length ≤ done'.length ∧ MR w2 r gm (ptf cls) done' ∧ w2.ownsRow w.heap.size 3 1 u3 l'.length (ints l') ∧ Below w.heap.size w w2 ∧ l'.Nodup ∧ ∀ y, y ∈ l' ↔ y ∈ done' ∧ headV cls row y = y from ⟨done ++ [a], l, by rw [List.length_append, List.length_singleton]; omega, by rw [List.length_append]; omega, hM2, ho2, hb2, hnd0, fun z => by
          rw [hl z, List.mem_append, List.mem_singleton]
          constructor
          · rintro ⟨h1, h2⟩; exact ⟨.inl h1, h2⟩
          · rintro ⟨h1 | rfl, h2⟩
            · exact ⟨h1, h2⟩
            · exact absurd h2 hh⟩)
        obtain ⟨hv, hhv⟩ : ∃ hv, headV cls row a = hv := ⟨_, rfl⟩
        rw [hhv] at HHa hh
        clear hM ho hb hl hnd hM2 hg hsz ho2 hb2 hf hdk hdl hdK hd2 hK hHa hal hnd0 hhv
        go_wp2_with fail
        refine HHa.out.mono ?_
        clear HHa
        rintro e w3 ⟨rfl, rfl⟩
        go_wp2
        go_roundg k1
        case measure => omega
        case rel => exact HN
set_option maxHeartbeats 4000000 in
theorem cHeads (h : CdS w gc ga go gi gp gm lk arcs ob ib cls row val tg pb cb) (V : List Int) (hV : ∀ x, cls x ≠ none → x ∈ V) (hVl : V.length ≤ 1000) :
    Calls Try.prog 16 #[.pointer (some ⟨gc, 0, none⟩)] w fun e w' => ∃ u l, e = .returned u ∧ w'.ownsRow w.heap.size 3 1 u l.length (ints l) ∧ Below w.heap.size w w' ∧ l.Pairwise (· < ·) ∧ ∀ y, y ∈ l ↔ cls y ≠ none ∧ headV cls row y = y := by
  have q3 := h.m.hc.cell 3 rfl
  have HC := Lib.hid (pheads_calls h.p V hV hVl)
  clear h hV
  go_enter Try.func16, Try.ntmps16
  go_wp2_with fail
  refine HC.out.mono ?_
  clear HC
  rintro e w1 ⟨u, l, rfl, hp⟩
  have HB := Lib.hid hp
  clear hp
  go_wp2
  go_ret
  exact ⟨_, l, rfl, HB.out⟩
end
end Go.Proofs.Ythomnpgpbhpojaa.Cd

/- The index's comparison of two arcs. -/
namespace Go.Proofs.Ythomnpgpbhpojaa.Cd
open Go Go.RowKit Go.MapKept Go.Sort Go.Proofs.Ythomnpgpbhpojaa.Mem Go.Proofs.Ythomnpgpbhpojaa.Sl Go.Proofs.Ythomnpgpbhpojaa.Scc Go.Proofs.Ythomnpgpbhpojaa.Tj Go.Proofs.Ythomnpgpbhpojaa.Lw Go.Proofs.Ythomnpgpbhpojaa.Pt Go.Proofs.YthomnpgpbhpojaaW.PrintWords Go.Proofs.YthomnpgpbhpojaaW.PrintLast
attribute [local go_sem ↓] Go.wp_at_zero Go.wp_at_succ
set_option linter.unusedSimpArgs false
set_option linter.unusedVariables false

def or2 (a b : Int) : Int := if a = 0 then b else a
set_option maxHeartbeats 8000000 in
set_option maxRecDepth 100000 in
theorem or_calls (w : World) (g : Nat) (a b : Int) (c0 : w.cell? ⟨g, 0, none⟩ = some (.int .i64 a)) (c1 : w.cell? ⟨g, 1, none⟩ = some (.int .i64 b)) :
    Calls Try.prog 41 #[.slice (some ⟨g, 0, none⟩) 2 2] w fun e w' => e = .returned (.int .i64 (or2 a b)) ∧ w' = w := by
  obtain ⟨r, hr⟩ : ∃ r, or2 a b = r := ⟨_, rfl⟩
  rw [hr]
  have HR := Lib.hid hr
  clear hr
  go_enter Try.func41, Try.ntmps41
  go_wp2_with fail
  go_loopg [8] 3 (fun kq v8 w' => ∃ j : Nat, v8 = .int .i64 (j : Int) ∧ w' = w ∧ j + kq = 3 ∧ j ≤ 2 ∧ (1 ≤ j → a = 0) ∧ (2 ≤ j → b = 0))
  case atStart => exact ⟨0, rfl, rfl, by omega, by omega, by omega, by omega⟩
  case round =>
    obtain ⟨j, rfl, rfl, hjk, hj2, h1, h2⟩ := hrel
    by_cases hj : j < 2
    · obtain ⟨k1, rfl⟩ : ∃ k1, gk = k1 + 1 := ⟨gk - 1, by omega⟩
      rcases Nat.lt_or_ge j 1 with h0 | h0
      · obtain rfl : j = 0 := by omega
        by_cases ha : a = 0
        · subst ha
          go_wp2
          go_roundg k1
          case measure => omega
          case rel => exact ⟨1, by go_num, rfl, by omega, by omega, by simp, by omega⟩
        · have hra : r = a := by rw [← HR.out]; unfold or2; rw [if_neg ha]
          clear h1 h2 hj h0
          go_wp2
          go_ret
          exact ⟨by first | rfl | (rw [hra]; rfl), rfl⟩
      · obtain rfl : j = 1 := by omega
        obtain rfl := h1 (by omega)
        by_cases hb : b = 0
        · subst hb
          go_wp2
          go_roundg k1
          case measure => omega
          case rel => exact ⟨2, by go_num, rfl, by omega, by omega, by simp, by simp⟩
        · have hra : r = b := by rw [← HR.out]; unfold or2; rw [if_pos rfl]
          clear h1 h2 hj h0
          go_wp2
          go_ret
          exact ⟨by first | rfl | (rw [hra]; rfl), rfl⟩
    · obtain rfl : j = 2 := by omega
      obtain rfl := h1 (by omega)
      obtain rfl := h2 (by omega)
      have hra : r = 0 := by rw [← HR.out]; unfold or2; rfl
      clear h1 h2 hj hjk
      go_wp2
      go_ret
      exact ⟨by first | rfl | (rw [hra]; rfl), rfl⟩
def acmp (x y : Int × Int) : Int := or2 (Lib.compareInt x.1 y.1) (Lib.compareInt x.2 y.2)
def encA (x : Int × Int) : List Value := [.int .i64 x.1, .int .i64 x.2]
def tb40_1.T1 : Bool × List (List Nat × List Nat) := (true, [([], []), ([0], [0]), ([], []), ([2], [2]), ([1, 3], [1, 3]), ([], []), ([5], [5]), ([], []), ([7], [7]), ([6, 8, 4], [6, 8]), ([4, 9], [4, 9]), ([10, 9], [10]), ([11, 11, 0, 1, 2, 3, 4, 5, 6, 7, 8, 9, 10, 11], [11])])
def tb40_1.B1 : List Nat := [0, 1, 0, 4, 15, 0, 32, 0, 128, 511, 1023, 2047, 4095]
theorem tb40_1.tab1 : rtab .any (opsOf Try.f40 1) = tb40_1.T1 := by kernel_rfl
theorem tb40_1.bits1 : waitsOk tb40_1.T1.2 tb40_1.B1 = true := by kernel_rfl
set_option maxHeartbeats 8000000 in
set_option maxRecDepth 100000 in
theorem acmp_calls (x1 x2 y1 y2 : Int) (W : World) : Calls Try.prog 40 #[.agg #[.int .i64 x1, .int .i64 x2], .agg #[.int .i64 y1, .int .i64 y2]] W fun e w' => e = .returned (.int .i64 (acmp (x1, x2) (y1, y2))) ∧ ∃ q os', w' = grow (W.drewN q) os' := by
  have hc1 := fun W => Try.cmp_Compare_int x1 y1 W
  have hc2 := fun W => Try.cmp_Compare_int x2 y2 W
  unfold acmp
  dsimp only
  obtain ⟨a, ha⟩ : ∃ a, Lib.compareInt x1 y1 = a := ⟨_, rfl⟩
  obtain ⟨b, hb⟩ : ∃ b, Lib.compareInt x2 y2 = b := ⟨_, rfl⟩
  rw [ha, hb]
  simp only [ha] at hc1
  simp only [hb] at hc2
  have HC1 := Lib.hid hc1
  have HC2 := Lib.hid hc2
  obtain ⟨r, hr⟩ : ∃ r, or2 a b = r := ⟨_, rfl⟩
  rw [hr]
  have HR := Lib.hid hr
  clear hc1 hc2 ha hb hr
  go_enter Try.func40, Try.ntmps40
  go_upto_region 1 with (fail)
  obtain ⟨gx, hgx⟩ : ∃ gx, W.heap.size = gx := ⟨_, rfl⟩
  refine gen_world (fun w' => w' = (W.alloc (.cells #[.int .i64 x1, .int .i64 x2] 69)).alloc (.cells #[.int .i64 y1, .int .i64 y2] 69)) rfl ?_
  intro wy hwy
  have hat0 : At wy W.heap.size [.int .i64 x1, .int .i64 x2] 69 := hwy ▸ (At.made rfl rfl).al
  have hat1 : At wy (W.heap.size + 1) [.int .i64 y1, .int .i64 y2] 69 := hwy ▸ At.made (by simp) rfl
  have HW := Lib.hid hwy
  clear hwy
  obtain ⟨gy, hgy⟩ : ∃ gy, W.heap.size + 1 = gy := ⟨_, rfl⟩
  rw [hgy] at hat1 ⊢
  rw [hgx] at hat0 ⊢
  clear hgx hgy
  obtain ⟨wd, hwd⟩ : ∃ wd, wy.drew = wd := ⟨_, rfl⟩
  have q0 : wd.cell? ⟨gx, 0, none⟩ = some (.int .i64 x1) := hwd ▸ hat0.cell 0 rfl
  have q1 : wd.cell? ⟨gx, 1, none⟩ = some (.int .i64 x2) := hwd ▸ hat0.cell 1 rfl
  have q2 : wd.cell? ⟨gy, 0, none⟩ = some (.int .i64 y1) := hwd ▸ hat1.cell 0 rfl
  have q3 : wd.cell? ⟨gy, 1, none⟩ = some (.int .i64 y2) := hwd ▸ hat1.cell 1 rfl
  clear hat0 hat1
  refine start_ (n := 13) (S := fun w' => w'.cell? ⟨gx, 0, none⟩ = some (.int .i64 x1) ∧ w'.cell? ⟨gx, 1, none⟩ = some (.int .i64 x2) ∧ w'.cell? ⟨gy, 0, none⟩ = some (.int .i64 y1) ∧ w'.cell? ⟨gy, 1, none⟩ = some (.int .i64 y2)) (ds := [10, 11]) (bA 13 0) (by kernel_rfl) rfl rfl ⟨(by rw [hwd]; exact q0), (by rw [hwd]; exact q1), (by rw [hwd]; exact q2), (by rw [hwd]; exact q3)⟩ (fun hHeld => ?_)
  rw [hwd] at hHeld ⊢
  refine with_tabW tb40_1.tab1 tb40_1.bits1 (fun HT_ HW_ => ?_)
  refine pw_ 0 5 (bA 13 1) HT_.out ?_
  refine pw_ 2 7 (bA 13 5) HT_.out ?_
  refine pw_ 5 10 (bA 13 37) HT_.out ?_
  refine pw_ 7 12 (bA 13 165) HT_.out ?_
  refine tw_ 1 6 (bA 13 167) HT_.out HW_.out hHeld (hv := by rintro w' ⟨s0, s1, s2, s3⟩; go_simp; with_reducible rfl) (h := ?_)
  refine tw_ 3 8 (bA 13 175) HT_.out HW_.out hHeld (hv := by rintro w' ⟨s0, s1, s2, s3⟩; go_simp; with_reducible rfl) (h := ?_)
  refine tw_ 6 11 (bA 13 239) HT_.out HW_.out hHeld (hv := by rintro w' ⟨s0, s1, s2, s3⟩; go_simp; with_reducible rfl) (h := ?_)
  refine tw_ 8 13 (bA 13 495) HT_.out HW_.out hHeld (hv := by rintro w' ⟨s0, s1, s2, s3⟩; go_simp; with_reducible rfl) (h := ?_)
  refine one_ (i := 4) (N := some 9) (bA 13 511) rfl rfl (one_of HT_.out (by kernel_rfl)) (by decide) (fun K hK => ?_)
  refine gw_ Try.func42 #[.int .i64 x1, .int .i64 y1] ?_
  with_reducible refine (HC1.out wd).mono ?_
  rintro e1 w1 ⟨rfl, hw1⟩
  refine ⟨_, rfl, ?_⟩
  obtain rfl : wd = w1 := hw1.symm
  refine hK.out _ _ ⟨q0, q1, q2, q3⟩ (fun hHeld => ?_)
  clear hK K
  refine norm_ (a' := ?_) ?_ ?_
  rotate_left
  · show Act.put _ (some 9) _ = _
    simp only [Act.put, pA, pB, pC, pD, pE]; rfl
  refine one_ (i := 9) (N := some 14) (bA 13 1023) rfl rfl (one_of HT_.out (by kernel_rfl)) (by decide) (fun K hK => ?_)
  refine gw_ Try.func42 #[.int .i64 x2, .int .i64 y2] ?_
  with_reducible refine (HC2.out wd).mono ?_
  rintro e2 w2 ⟨rfl, hw2⟩
  refine ⟨_, rfl, ?_⟩
  obtain rfl : wd = w2 := hw2.symm
  refine hK.out _ _ ⟨q0, q1, q2, q3⟩ (fun hHeld => ?_)
  clear hK K
  refine norm_ (a' := ?_) ?_ ?_
  rotate_left
  · show Act.put _ (some 14) _ = _
    simp only [Act.put, pA, pB, pC, pD, pE]; rfl
  refine last_ (i := 10) (N := some 15) (bA 13 2047) rfl rfl (one_of HT_.out (by kernel_rfl)) (by decide) (fun K hK => ?_)
  refine value_ (w1 := ?_) (v := ?_) (by rfl) rfl ?_ ?_
  rotate_left 2
  · go_simp
    constructor
    · rfl
    · rfl
  have HO := Lib.hid (or_calls (wd.alloc (.cells #[.int .i64 a, .int .i64 b] 3)) wd.heap.size a b ((At.made (w := wd) (a := #[.int .i64 a, .int .i64 b]) rfl rfl).cell 0 rfl) ((At.made (w := wd) (a := #[.int .i64 a, .int .i64 b]) rfl rfl).cell 1 rfl))
  refine hK.out _ _ ?_; clear hK K
  refine norm_ (a' := ?_) ?_ ?_
  rotate_left
  · show Act.put _ (some 15) _ = _
    simp only [Act.put, pA, pB, pC, pD, pE]; rfl
  refine last_ (i := 11) (N := some 16) (bA 13 4095) rfl rfl (one_of HT_.out (by kernel_rfl)) (by decide) (fun K hK => ?_)
  refine gw_ Try.func41 #[.slice (some ⟨wd.heap.size, 0, none⟩) 2 2] ?_
  with_reducible refine (HO.out).mono ?_
  rintro e3 w3 ⟨rfl, rfl⟩
  refine ⟨_, rfl, ?_⟩
  refine hK.out _ _ ?_; clear hK K
  refine norm_ (a' := ?_) ?_ ?_
  rotate_left
  · show Act.put _ (some 16) _ = _
    simp only [Act.put, pA, pB, pC, pD, pE]; rfl
  refine pw_ 12 4 (bA 13 8191) HT_.out ?_
  refine done_ (done_of HT_.out (by kernel_rfl)) ?_
  clear hHeld HT_ HW_
  have HD := Lib.hid hwd
  clear hwd q0 q1 q2 q3 HC1 HC2
  go_wp2
  go_ret
  refine ⟨by first | rfl | (rw [HR.out]; rfl), 1, #[.cells #[.int .i64 x1, .int .i64 x2] 69] ++ #[.cells #[.int .i64 y1, .int .i64 y2] 69] ++ #[.cells #[.int .i64 a, .int .i64 b] 3], ?_⟩
  rw [← HD.out, HW.out, alloc_eq_grow, alloc_eq_grow, alloc_eq_grow, ← grow_grow, ← grow_grow]
  rfl
theorem acmp_lt (x y : Int × Int) : (acmp x y < 0) ↔ (x.1 < y.1 ∨ (x.1 = y.1 ∧ x.2 < y.2)) := by
  unfold acmp or2 Lib.compareInt
  by_cases h1 : x.1 < y.1
  · simp [h1]
  · by_cases h2 : x.1 > y.1
    · simp [h1, h2]
      omega
    · have h3 : x.1 = y.1 := by omega
      by_cases h4 : x.2 < y.2
      · simp [h3, h4]
      · by_cases h5 : x.2 > y.2 <;> simp [h3, h4, h5]
end Go.Proofs.Ythomnpgpbhpojaa.Cd

/- SameArcs of one list. -/
namespace Go.Proofs.Ythomnpgpbhpojaa.Cd
open Go Go.RowKit Go.Proofs.Ythomnpgpbhpojaa.Mem Go.Proofs.Ythomnpgpbhpojaa.Sl Go.Proofs.Ythomnpgpbhpojaa.Scc Go.Proofs.Ythomnpgpbhpojaa.Tj Go.Proofs.Ythomnpgpbhpojaa.Lw Go.Proofs.YthomnpgpbhpojaaW.PrintWords Go.Proofs.YthomnpgpbhpojaaW.PrintLast
attribute [local go_sem ↓] Go.wp_at_zero Go.wp_at_succ
set_option linter.unusedSimpArgs false
set_option linter.unusedVariables false

def tb17_6.T6 : Bool × List (List Nat × List Nat) := (true, [([], []), ([], []), ([0, 1], [0, 1]), ([2], [2]), ([], []), ([], []), ([4, 5], [4, 5]), ([6], [6]), ([3, 7], [3, 7])])
def tb17_6.B6 : List Nat := [0, 0, 3, 7, 0, 0, 48, 112, 255]
theorem tb17_6.tab6 : rtab .any (opsOf Try.f17 6) = tb17_6.T6 := by kernel_rfl
theorem tb17_6.bits6 : waitsOk tb17_6.T6.2 tb17_6.B6 = true := by kernel_rfl
set_option maxHeartbeats 4000000 in
theorem sameArcs_calls (w : World) (A B : Option Addr) (ca cb : Nat) (l : List (Int × Int)) (ha : RdA w A l) (hb : RdA w B l) (hl : l.length ≤ 1000) :
    Calls Try.prog 17 #[.slice A l.length ca, .slice B l.length cb] w fun e w' => e = .returned (.bool true) ∧ Below w.heap.size w w' := by
  have HX := Lib.hid (And.intro ha hb)
  obtain ⟨n, hn⟩ : ∃ n, l.length = n := ⟨_, rfl⟩
  rw [hn] at hl ⊢
  have HN := Lib.hid hn
  clear ha hb hn
  go_enter Try.func17, Try.ntmps17
  go_wp2_with fail
  go_loopg [13] n (fun kq v13 w' => ∃ i : Nat, v13 = .int .i64 (i : Int) ∧ Hid (i + kq = n ∧ ∃ q, w' = w.drewN q))
  case atStart => exact ⟨0, rfl, Lib.hid ⟨by omega, 0, rfl⟩⟩
  case round =>
    obtain ⟨i, rfl, hI⟩ := hrel
    obtain ⟨hik, q, rfl⟩ := hI.out
    clear hI
    by_cases hi : i < n
    · obtain ⟨k1, rfl⟩ : ∃ k1, gk = k1 + 1 := ⟨gk - 1, by omega⟩
      obtain ⟨⟨u, v⟩, hx⟩ : ∃ x, l[i]? = some x := ⟨_, List.getElem?_eq_getElem (by rw [HN.out]; exact hi)⟩
      obtain ⟨b1, rfl, a0', a1'⟩ := HX.out.1 i u v hx
      obtain ⟨b2, rfl, c0', c1'⟩ := HX.out.2 i u v hx
      have a0 : (w.drewN q).cell? ⟨b1, i * 2, none⟩ = some (.int .i64 u) := a0'
      have a1 : (w.drewN q).cell? ⟨b1, i * 2 + 1, none⟩ = some (.int .i64 v) := a1'
      have c0 : (w.drewN q).cell? ⟨b2, i * 2, none⟩ = some (.int .i64 u) := c0'
      have c1 : (w.drewN q).cell? ⟨b2, i * 2 + 1, none⟩ = some (.int .i64 v) := c1'
      have i0 : (0 : Int) ≤ (i : Int) := by omega
      have i1 : (i : Int) < (n : Int) := by omega
      have i2 : (n : Int) ≤ 1000 := by omega
      clear a0' a1' c0' c1' hx hi
      go_upto_region 6 with (fail)
      refine start_ (n := 9) (S := fun w' => w'.cell? ⟨b1, i * 2, none⟩ = some (.int .i64 u) ∧ w'.cell? ⟨b1, i * 2 + 1, none⟩ = some (.int .i64 v) ∧ w'.cell? ⟨b2, i * 2, none⟩ = some (.int .i64 u) ∧ w'.cell? ⟨b2, i * 2 + 1, none⟩ = some (.int .i64 v)) (ds := []) (bA 9 0) (by kernel_rfl) rfl rfl ⟨a0, a1, c0, c1⟩ (fun hHeld => ?_)
      refine with_tabW tb17_6.tab6 tb17_6.bits6 (fun HT_ HW_ => ?_)
      refine pw_ 0 16 (bA 9 1) HT_.out ?_
      refine pw_ 1 17 (bA 9 3) HT_.out ?_
      refine pw_ 2 18 (bA 9 7) HT_.out ?_
      refine pw_ 4 20 (bA 9 23) HT_.out ?_
      refine pw_ 5 21 (bA 9 55) HT_.out ?_
      refine pw_ 6 22 (bA 9 119) HT_.out ?_
      refine tw_ 3 19 (bA 9 127) HT_.out HW_.out hHeld (hv := by rintro w' ⟨s0, s1, s2, s3⟩; go_simp; with_reducible rfl) (h := ?_)
      refine tw_ 7 23 (bA 9 255) HT_.out HW_.out hHeld (hv := by rintro w' ⟨s0, s1, s2, s3⟩; go_simp; with_reducible rfl) (h := ?_)
      refine pw_ 8 24 (bA 9 511) HT_.out ?_
      refine done_ (done_of HT_.out (by kernel_rfl)) ?_
      clear hHeld HT_ HW_; clear a0 a1 c0 c1
      go_wp2
      go_roundg k1
      case measure => omega
      case rel => exact ⟨i + 1, by go_num, Lib.hid ⟨by omega, q + 1, rfl⟩⟩
    · obtain rfl : n = i := by omega
      clear hi hik
      go_wp2
      go_ret
      exact ⟨rfl, Mem.Below.drN (Below.refl _ _) q⟩
end Go.Proofs.Ythomnpgpbhpojaa.Cd
