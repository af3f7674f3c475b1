/- awake: the document's example. -/
import Derived.Test.YthomnpgpbhpojaaGd36
namespace Go.Proofs.Ythomnpgpbhpojaa.Cd
open Go Go.RowKit Go.MapKept Go.Proofs.Ythomnpgpbhpojaa.Mem Go.Proofs.Ythomnpgpbhpojaa.Sl Go.Proofs.Ythomnpgpbhpojaa.Scc Go.Proofs.Ythomnpgpbhpojaa.Tj Go.Proofs.Ythomnpgpbhpojaa.Lw Go.Proofs.Ythomnpgpbhpojaa.Pt Go.Proofs.YthomnpgpbhpojaaW.PrintWords Go.Proofs.YthomnpgpbhpojaaW.PrintLast
attribute [local go_sem ↓] Go.wp_at_zero Go.wp_at_succ
set_option linter.unusedSimpArgs false
set_option linter.unusedVariables false

def AwS (w W : World) (gc : Nat) (vs : List Int) (es : List (Int × Int × Int)) : Prop :=
  ∃ lk arcs cls row cb, CdE W gc lk arcs cls row cb ∧ Sy arcs cls vs es ∧ (∀ k, cb k → w.heap.size ≤ k) ∧ Below w.heap.size w W
section
variable {w W W' : World} {gc : Nat} {vs : List Int} {es : List (Int × Int × Int)} {e u v : Int}
theorem aw_step {arcs' : Int → Option (Int × Int)} {cls' : Int → Option Nat} {row' : Nat → List Int} {cb cb' : Nat → Prop} {lk' : Int} {vs' : List Int} {es' : List (Int × Int × Int)} (hn : ∀ k, cb k → w.heap.size ≤ k) (hb : Below w.heap.size w W) (hk : Kpt cb W W') (hc : CdE W' gc lk' arcs' cls' row' cb') (hcb : ∀ k, cb' k → ext cb W W' k) (hS : Sy arcs' cls' vs' es') : AwS w W' gc vs' es' :=
  ⟨lk', arcs', cls', row', cb', hc, hS, fun k hk => (hcb k hk).elim (hn k) fun h => Nat.le_trans hb.size h.1, hb.trans (hk.to_below fun k hk => ⟨Nat.lt_of_lt_of_le hk hb.size, fun hx => by have := hn k hx; omega⟩)⟩
theorem aw_new (w : World) : Calls Try.prog 5 #[] w fun e w' => ∃ gc, e = .returned (.pointer (some ⟨gc, 0, none⟩)) ∧ AwS w w' gc [] [] ∧ CdE w' gc 0 (fun _ => none) (fun _ => none) (fun _ => []) (fun k => w.heap.size ≤ k ∧ k < w'.heap.size) :=
  (cNew w).mono fun e w' ⟨gc, ga, go, gi, gp, gm, tg, he, hb, hc⟩ => ⟨gc, he, ⟨0, _, _, _, _, ⟨_, _, _, _, _, _, _, _, _, _, hc⟩, Sy.new, fun k hk => hk.1, hb⟩, ⟨_, _, _, _, _, _, _, _, _, _, hc⟩⟩
theorem aw_dead {arcs : Int → Option (Int × Int)} {cls : Int → Option Nat} (h : Sy arcs cls vs es) (hv : v ∉ vs) : cls v = none := by
  cases hx : cls v with
  | none => rfl
  | some b => exact absurd ((h.cv v).1 (by rw [hx]; simp)) hv
theorem aw_addv (h : AwS w W gc vs es) (hv : v ∉ vs) : Calls Try.prog 12 #[.pointer (some ⟨gc, 0, none⟩), .int .i64 v] W fun e W' => e = .returned (.bool true) ∧ AwS w W' gc (sorted (vs ++ [v])) es := by
  obtain ⟨lk, arcs, cls, row, cb, ⟨ga, go, gi, gp, gm, ob, ib, val, tg, pb, hc⟩, hS, hn, hb⟩ := h
  exact (addv_calls hc v (aw_dead hS hv)).mono fun e' W' ⟨he, hk, ob', ib', cls', row', val', tg', pb', hnv, hc'⟩ => ⟨he, aw_step hn hb hk ⟨_, _, _, _, _, _, _, _, _, _, hc'⟩ (fun k hk => hk) (hS.addv hv hnv)⟩
theorem aw_again (h : AwS w W gc vs es) (hv : v ∈ vs) : Calls Try.prog 12 #[.pointer (some ⟨gc, 0, none⟩), .int .i64 v] W fun e W' => e = .returned (.bool false) ∧ AwS w W' gc vs es := by
  have h0 := h
  obtain ⟨lk, arcs, cls, row, cb, ⟨ga, go, gi, gp, gm, ob, ib, val, tg, pb, hc⟩, hS, hn, hb⟩ := h
  exact (addv_no hc v ((hS.cv v).2 hv)).mono fun e' W' ⟨he, hw⟩ => ⟨he, hw ▸ h0⟩
theorem aw_adda (h : AwS w W gc vs es) (hvl : vs.length ≤ 400) (hel : es.length ≤ 400) (he : ∀ p ∈ es, p.1 ≠ e) (hu : u ∈ vs) (hv : v ∈ vs) : Calls Try.prog 13 #[.pointer (some ⟨gc, 0, none⟩), .int .i64 e, .int .i64 u, .int .i64 v] W fun en W' => en = .returned (.int .i64 0) ∧ AwS w W' gc vs (es ++ [(e, u, v)]) := by
  obtain ⟨lk, arcs, cls, row, cb, ⟨ga, go, gi, gp, gm, ob, ib, val, tg, pb, hc⟩, hS, hn, hb⟩ := h
  exact (adda_calls hc vs (fun x hx => (hS.cv x).1 hx) (by omega) e u v (hS.noarc he) ((hS.cv u).2 hu) ((hS.cv v).2 hv) ⟨es.map (·.1), by rw [List.length_map]; omega, hS.keys⟩).mono fun e' W' ⟨he1, hk, lk', cls', row', val', pb', hc', hP⟩ => ⟨he1, aw_step hn hb hk ⟨_, _, _, _, _, _, _, _, _, _, hc'⟩ (fun k hk => hk) (hS.adda he hu hv hP)⟩
theorem aw_dela (h : AwS w W gc vs es) (he : ∀ p ∈ es, p.1 ≠ e) : Calls Try.prog 14 #[.pointer (some ⟨gc, 0, none⟩), .int .i64 e] W fun en W' => en = .returned (.int .i64 6) ∧ Below W.heap.size W W' := by
  obtain ⟨lk, arcs, cls, row, cb, ⟨ga, go, gi, gp, gm, ob, ib, val, tg, pb, hc⟩, hS, hn, hb⟩ := h
  exact dela_no hc e (hS.noarc he)
theorem aw_mut (h : AwS w W gc vs es) (hvl : vs.length ≤ 400) (hv : ∀ x, x ∈ vs ↔ x = 1 ∨ x = 2) {e1 e2 : Int} (h1 : (e1, 1, 2) ∈ es) (h2 : (e2, 2, 1) ∈ es) :
    Calls Try.prog 20 #[.pointer (some ⟨gc, 0, none⟩), .int .i64 2] W (fun en W' => en = .returned (.tuple #[.int .i64 1, .bool true]) ∧ W' = W) ∧
    Calls Try.prog 10 #[.pointer (some ⟨gc, 0, none⟩), .int .i64 1, .int .i64 2] W (fun en W' => en = .returned (.bool true) ∧ Below W.heap.size W W') := by
  obtain ⟨lk, arcs, cls, row, cb, hE, hS, hn, hb⟩ := h
  have hro := hE.rowOk
  obtain ⟨ga, go, gi, gp, gm, ob, ib, val, tg, pb, hc⟩ := hE
  have c1 := (hS.cv 1).2 ((hv 1).2 (.inl rfl))
  have c2 := (hS.cv 2).2 ((hv 2).2 (.inr rfl))
  have heq : cls 1 = cls 2 := (hS.pi 1 2 c1 c2).2 ⟨.step .base ⟨e1, (hS.ae e1 1 2).2 h1⟩, .step .base ⟨e2, (hS.ae e2 2 1).2 h2⟩⟩
  obtain ⟨b, hb2⟩ := Option.ne_none_iff_exists'.1 c2
  obtain ⟨hm, hnd⟩ := hro 2 b hb2
  have hne : row b ≠ [] := fun e => by
    have := (hm 2).2 hb2
    rw [e] at this
    cases this
  obtain ⟨m1, m2⟩ := minOf_head hne
  have hmin : headV cls row 2 = 1 := by
    have h3 : headV cls row 2 = Lib.minOf (row b) := by unfold headV; rw [hb2]
    have h4 := (hv _).1 ((hS.cv _).1 (by rw [(hm _).1 m1]; simp))
    have h5 := m2 1 ((hm 1).2 (heq.trans hb2))
    rw [h3]
    omega
  have hrl : ∀ v b, cls v = some b → (row b).length ≤ 500000 := fun v b hv' => by
    obtain ⟨h1, h2⟩ := hro v b hv'
    have := nodup_le h2 fun x hx => (hS.cv x).1 (by rw [(h1 x).1 hx]; simp)
    omega
  have hH := cHead hc 2 hrl
  rw [hmin, hb2, Option.isSome_some] at hH
  have hSm := cSame hc 1 2
  rw [show sameV cls 1 2 = true from decide_eq_true ⟨c1, heq⟩] at hSm
  exact ⟨hH, hSm⟩
end
set_option maxHeartbeats 8000000 in
set_option maxRecDepth 100000 in
theorem awake_calls (w : World) : Calls Try.prog 6 #[] w fun e w' => e = .returned (.bool true) ∧ Below w.heap.size w w' := by
  have HN := Lib.hid (aw_new w)
  go_enter Try.func6, Try.ntmps6
  go_wp2_with fail
  refine HN.out.mono ?_
  clear HN
  rintro e w1 ⟨gc, rfl, hA, _⟩
  have HA := Lib.hid hA
  clear hA
  go_wp2_with fail
  refine (aw_addv HA.out (v := 1) (by simp)).mono ?_
  clear HA
  rintro e w2 ⟨rfl, hA⟩
  have HA := Lib.hid hA
  clear hA
  go_wp2_with fail
  refine (aw_addv HA.out (v := 2) (by simp [sorted, List.mem_mergeSort])).mono ?_
  clear HA
  rintro e w3 ⟨rfl, hA⟩
  have hmem : ∀ x : Int, x ∈ sorted (sorted ([] ++ [(1 : Int)]) ++ [2]) ↔ x = 1 ∨ x = 2 := fun x => by simp [sorted, List.mem_mergeSort]
  have hlen : (sorted (sorted ([] ++ [(1 : Int)]) ++ [2])).length ≤ 400 := by rw [sorted_length]; simp [sorted_length]
  obtain ⟨V, hV⟩ : ∃ V, sorted (sorted ([] ++ [(1 : Int)]) ++ [2]) = V := ⟨_, rfl⟩
  rw [hV] at hA hmem hlen
  have HA := Lib.hid hA
  have HM := Lib.hid (And.intro hmem hlen)
  clear hA hV hmem hlen
  go_wp2_with fail
  refine (aw_again HA.out (v := 2) ((HM.out.1 2).2 (.inr rfl))).mono ?_
  clear HA
  rintro e w4 ⟨rfl, hA⟩
  have HA := Lib.hid hA
  clear hA
  go_wp2_with fail
  refine (aw_adda HA.out HM.out.2 (by simp) (by simp) ((HM.out.1 1).2 (.inl rfl)) ((HM.out.1 2).2 (.inr rfl))).mono ?_
  clear HA
  rintro e w5 ⟨rfl, hA⟩
  have HA := Lib.hid hA
  clear hA
  go_wp2_with fail
  refine (aw_adda HA.out HM.out.2 (by simp) (by simp) ((HM.out.1 2).2 (.inr rfl)) ((HM.out.1 1).2 (.inl rfl))).mono ?_
  clear HA
  rintro e w6 ⟨rfl, hA⟩
  have hT := aw_mut hA HM.out.2 HM.out.1 (e1 := 10) (e2 := 11) (by simp) (by simp)
  have hD := aw_dela hA (e := 12) (by simp)
  obtain ⟨lk, arcs, cls, row, cb, hc, hS, hn, hb⟩ := id hA
  have HA := Lib.hid (And.intro hA hb)
  have HT := Lib.hid hT
  clear hA hT hD hc hS hn hb lk arcs cls row cb
  go_wp2_with fail
  refine HT.out.1.mono ?_
  rintro e w7 ⟨rfl, rfl⟩
  go_wp2_with fail
  refine HT.out.2.mono ?_
  rintro e w8 ⟨rfl, hb8⟩
  have HB := Lib.hid (HA.out.2.trans (hb8.mono HA.out.2.size))
  have HD := Lib.hid (show Calls Try.prog 14 #[.pointer (some ⟨gc, 0, none⟩), .int .i64 12] w8 (fun en W' => en = .returned (.int .i64 6) ∧ Below w8.heap.size w8 W') from by
    obtain ⟨lk, arcs, cls, row, cb, hc, hS, hn, hb⟩ := HA.out.1
    exact aw_dela (w := w) ⟨lk, arcs, cls, row, cb, hc.below hb8, hS, hn, hb.trans (hb8.mono hb.size)⟩ (by simp))
  clear hb8 HA HT
  go_wp2_with fail
  refine HD.out.mono ?_
  clear HD
  rintro e w9 ⟨rfl, hb9⟩
  have HZ := Lib.hid (HB.out.trans (hb9.mono HB.out.size))
  clear hb9 HB
  go_wp2
  go_ret
  exact ⟨rfl, HZ.out⟩
end Go.Proofs.Ythomnpgpbhpojaa.Cd
