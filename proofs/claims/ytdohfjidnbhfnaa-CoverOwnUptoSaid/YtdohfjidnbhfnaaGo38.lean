/- The laws of cover: cut, awake. -/
import Derived.Test.YtdohfjidnbhfnaaGo36
import Derived.Laws.Bits64
namespace Go.Proofs.Ytdohfjidnbhfnaa.Lc
open Go Go.RowKit Go.Proofs.Ytdohfjidnbhfnaa.Mem Go.Proofs.Ytdohfjidnbhfnaa.Sl Go.Proofs.Ytdohfjidnbhfnaa.Scc Go.Proofs.Ytdohfjidnbhfnaa.Tj Go.Proofs.Ytdohfjidnbhfnaa.Lw Go.Proofs.Ytdohfjidnbhfnaa.Cv Go.Proofs.Ytdohfjidnbhfnaa.Rb Go.Proofs.YtdohfjidnbhfnaaW.PrintWords Go.Proofs.YtdohfjidnbhfnaaW.PrintLast
attribute [local go_sem ↓] Go.wp_at_zero Go.wp_at_succ
set_option linter.unusedSimpArgs false
set_option linter.unusedVariables false

set_option maxHeartbeats 4000000 in
theorem cut_calls (w : World) (a1 : Value) (n k : Nat) (xs : List Value) (h1 : ArgV w a1 n 2 xs) (hk : k ≤ 1000) :
    Calls Try.prog 10 #[a1, .int .i64 (k : Int)] w fun e w' => ∃ v, e = .returned v ∧ One w 38 2 v (min n k) (xs.take (min n k * 2)) w' := by
  obtain ⟨q1, hq1⟩ : ∃ q, min n k = q := ⟨_, rfl⟩
  have hsh : ∃ A c, a1 = .slice A n c := by
    obtain ⟨_, _, ⟨rfl, rfl⟩ | ⟨ad, c, rfl, _⟩⟩ := h1
    · exact ⟨none, 0, rfl⟩
    · exact ⟨some ad, c, rfl⟩
  obtain ⟨A1, c1, rfl⟩ := hsh
  obtain ⟨d1, hc1⟩ := h1.take (m := q1) (by omega)
  have e1 : min (n : Int) (k : Int) = (q1 : Int) := by omega
  have g1 : (0 : Int) ≤ (q1 : Int) := by omega
  have g3 : (q1 : Int) ≤ (c1 : Int) := by omega
  have hq : q1 ≤ 1000 := by omega
  obtain ⟨i2, hi2, hz2, hs2, hb2⟩ := info_parts Lw.info_arc
  rw [hq1]
  have HD := Lib.hid d1
  clear h1 d1 hq1 hc1
  go_enter Try.func10, Try.ntmps10
  go_wp2_with ((at_builtin; refine wpList_append_any rfl (.tmp 5) (.tmp 11) 22 rfl w.heap.size 38 i2 (.agg #[.int .i64 0, .int .i64 0]) 2 16 Try.underlying22 hi2 hz2 hs2 hb2 rfl (by omega) _ 0 [] rfl (own_made rfl (Nat.le_refl _)) _ rfl q1 (xs.take (q1 * 2)) (HD.out.below ((Below.refl _ _).alloc (Nat.le_refl _) (.cells #[] 38))) (by unfold maxLen; omega) (by omega) (by simp) ?_; intro v5 w5 ho hg hn; have hone := (One.make (Below.refl _ _) (own_made (T := 38) (size := 2) rfl (Nat.le_refl _)) ((Below.refl w.heap.size w).alloc (Nat.le_refl _) (.cells #[] 38))).grow ho hg; have HO := Lib.hid hone; clear ho hg hn hone))
  go_ret
  refine ⟨_, rfl, ?_⟩
  have := HO.out
  rw [Nat.zero_add] at this
  exact this

theorem cut2_calls (w : World) (a1 : Value) (arcs : List (Int × Int)) (k : Nat) (h1 : ArgV w a1 arcs.length 2 (arcs2 arcs)) (hk : k ≤ 1000) :
    Calls Try.prog 10 #[a1, .int .i64 (k : Int)] w fun e w' => ∃ v, e = .returned v ∧ One w 38 2 v (arcs.take k).length (arcs2 (arcs.take k)) w' := by
  refine (cut_calls w a1 arcs.length k (arcs2 arcs) h1 hk).mono ?_
  rintro e w' ⟨v, he, hT⟩
  refine ⟨v, he, ?_⟩
  have e2 : (arcs2 arcs).take (min arcs.length k * 2) = arcs2 (arcs.take k) := by
    rw [arcs2_take]
    rcases Nat.le_total arcs.length k with h | h
    · rw [Nat.min_eq_left h, List.take_of_length_le (Nat.le_refl _), List.take_of_length_le h]
    · rw [Nat.min_eq_right h]
  rw [e2] at hT
  rw [List.length_take, Nat.min_comm]
  exact hT

/-! The fixed fact. -/
def aw : List (Int × Int) := [(0, 2), (1, 2), (2, 3), (1, 4)]
def awS (v : Nat) : List Nat := [[0, 2, 3], [1, 2, 3, 4], [2, 3], [3], [4]].getD v []
def awT (v : Nat) : List (Int × Int) := [[(1, 3)], [(1, 2), (4, 5)], [(1, 2)], [(1, 1)], [(4, 4)]].getD v []
theorem aw_up : Up 5 aw := by
  intro p hp
  revert p
  decide
theorem aw_to : ∀ v, v < 5 → ∀ a ∈ awS v, ∀ p ∈ aw, p.1 = (a : Int) → p.2.toNat ∈ awS v := by decide
theorem aw_rch {v x : Nat} (hv : v < 5) : Rch (EA aw) v x ↔ x ∈ awS v := by
  constructor
  · intro h
    induction h with
    | refl => revert hv v; decide
    | step _ he ih => exact aw_to v hv _ ih _ he rfl
  · have e02 : EA aw 0 2 := by unfold EA; decide
    have e12 : EA aw 1 2 := by unfold EA; decide
    have e23 : EA aw 2 3 := by unfold EA; decide
    have e14 : EA aw 1 4 := by unfold EA; decide
    intro h
    have hc : v = 0 ∨ v = 1 ∨ v = 2 ∨ v = 3 ∨ v = 4 := by omega
    rcases hc with rfl | rfl | rfl | rfl | rfl <;> simp [awS] at h
    · rcases h with rfl | rfl | rfl
      · exact .refl _
      · exact .one e02
      · exact (Rch.one e02).trans (.one e23)
    · rcases h with rfl | rfl | rfl | rfl
      · exact .refl _
      · exact .one e12
      · exact (Rch.one e12).trans (.one e23)
      · exact .one e14
    · rcases h with rfl | rfl
      · exact .refl _
      · exact .one e23
    · subst h; exact .refl _
    · subst h; exact .refl _
theorem aw_post : ∀ v, v < 5 → postN (parsOf 5 aw) v = [3, 5, 2, 1, 4].getD v 0 := by decide
theorem aw_lab {w0 w : World} {gc gn ga : Nat} {nd : List Nd} {al : List Int} {L : Nat → List (Int × Int)} {rk : Nat → Nat} (h : Kn w0 w gc 5 aw aw gn ga nd al L rk) {v : Nat} (hv : v < 5) : L v = awT v := by
  have h1 := h.labOk hv
  have hcan : Sp.Canon 0 (awT v) := by
    have hc : v = 0 ∨ v = 1 ∨ v = 2 ∨ v = 3 ∨ v = 4 := by omega
    rcases hc with rfl | rfl | rfl | rfl | rfl <;> simp [awT, Sp.Canon]
  refine Sp.canon_ext h1.1.1 hcan fun y => ?_
  rw [h1.2 y]
  have hx : (∃ x, x < 5 ∧ Rch (EA aw) v x ∧ y = (postN (parsOf 5 aw) x : Int)) ↔ ∃ x ∈ awS v, y = ((([3, 5, 2, 1, 4] : List Nat).getD x 0 : Nat) : Int) := by
    constructor
    · rintro ⟨x, hx, hr, rfl⟩
      exact ⟨x, (aw_rch hv).1 hr, by rw [aw_post x hx]⟩
    · rintro ⟨x, hx, rfl⟩
      have hx5 : x < 5 := by
        have : ∀ v, v < 5 → ∀ x ∈ awS v, x < 5 := by decide
        exact this v hv x hx
      exact ⟨x, hx5, (aw_rch hv).2 hx, by rw [aw_post x hx5]⟩
  rw [hx]
  have hc : v = 0 ∨ v = 1 ∨ v = 2 ∨ v = 3 ∨ v = 4 := by omega
  rcases hc with rfl | rfl | rfl | rfl | rfl <;> simp [awS, awT, Sp.Mem] <;> omega

set_option maxHeartbeats 4000000 in
theorem awake_calls (w : World) : Calls Try.prog 9 #[] w fun e w' => e = .returned (.bool true) ∧ Below w.heap.size w w' := by
  have hB : Calls Try.prog 12 #[.int .i64 5, .slice (some ⟨w.heap.size, 0, none⟩) 4 4] (w.alloc (.cells #[.int .i64 0, .int .i64 2, .int .i64 1, .int .i64 2, .int .i64 2, .int .i64 3, .int .i64 1, .int .i64 4] 38)) _ :=
    build_kn (w.alloc (.cells #[.int .i64 0, .int .i64 2, .int .i64 1, .int .i64 2, .int .i64 2, .int .i64 3, .int .i64 1, .int .i64 4] 38)) 5 (some ⟨w.heap.size, 0, none⟩) 4 aw (RdA.lit w aw _) (by omega) (by decide) aw_up.acy
  have HB := Lib.hid hB
  clear hB
  go_enter Try.func9, Try.ntmps9
  go_wp2_with fail
  refine HB.out.mono ?_
  clear HB
  rintro e w1 ⟨gc, gn, ga, nd, al, L, rk, comp, mm, rfl, hK, _, _, hb⟩
  have HK := Lib.hid hK
  have HB := Lib.hid (((Below.refl w.heap.size w).alloc (Nat.le_refl _) _).trans (hb.mono (by simp)))
  clear hb hK
  go_wp2_with fail
  refine HK.out.len_.mono ?_
  rintro e w1 ⟨rfl, rfl⟩
  go_wp2_with fail
  have h3 : Calls Try.prog 20 #[.pointer (some ⟨gc, 0, none⟩), .int .i64 3] w1 fun e w' => e = .returned (.int .i64 1) ∧ w' = w1 := by
    have := HK.out.post_ (v := 3) (by omega)
    rw [aw_post 3 (by omega)] at this
    exact this
  have h1 : Calls Try.prog 20 #[.pointer (some ⟨gc, 0, none⟩), .int .i64 1] w1 fun e w' => e = .returned (.int .i64 5) ∧ w' = w1 := by
    have := HK.out.post_ (v := 1) (by omega)
    rw [aw_post 1 (by omega)] at this
    exact this
  have H1 := Lib.hid h1
  clear h1
  refine h3.mono ?_
  clear h3
  rintro e w1 ⟨rfl, rfl⟩
  go_wp2_with fail
  refine H1.out.mono ?_
  clear H1
  rintro e w1 ⟨rfl, rfl⟩
  have hs : Calls Try.prog 23 #[.pointer (some ⟨gc, 0, none⟩)] w1 fun e w' => e = .returned (.int .i64 6) ∧ Below w1.heap.size w1 w' := by
    have := HK.out.size_
    have hsum : (((List.range 5).map L).map List.length).sum = 6 := by
      show (L 0).length + ((L 1).length + ((L 2).length + ((L 3).length + ((L 4).length + 0)))) = 6
      rw [aw_lab HK.out (v := 0) (by omega), aw_lab HK.out (v := 1) (by omega), aw_lab HK.out (v := 2) (by omega), aw_lab HK.out (v := 3) (by omega), aw_lab HK.out (v := 4) (by omega)]
      rfl
    rw [hsum] at this
    exact this
  have HS := Lib.hid hs
  clear hs
  go_wp2_with fail
  refine HS.out.mono ?_
  clear HS
  rintro e w2 ⟨rfl, hb⟩
  have h13 : Calls Try.prog 14 #[.pointer (some ⟨gc, 0, none⟩), .int .i64 1, .int .i64 3] w2 fun e w' => e = .returned (.bool true) ∧ Below w2.heap.size w2 w' := by
    have := (HK.out.below hb).reaches_ (u := 1) (v := 3) (by omega) (by omega)
    rw [rB_iff.2 ((aw_rch (by omega)).2 (by decide))] at this
    exact this
  have HK2 := Lib.hid (HK.out.below hb)
  have HB2 := Lib.hid (HB.out.trans (hb.mono HB.out.size))
  have H13 := Lib.hid h13
  clear h13 hb HB HK
  go_wp2_with fail
  refine H13.out.mono ?_
  clear H13
  rintro e w3 ⟨rfl, hb⟩
  have h04 : Calls Try.prog 14 #[.pointer (some ⟨gc, 0, none⟩), .int .i64 0, .int .i64 4] w3 fun e w' => e = .returned (.bool false) ∧ Below w3.heap.size w3 w' := by
    have := (HK2.out.below hb).reaches_ (u := 0) (v := 4) (by omega) (by omega)
    have hf : rB (EA aw) 0 4 = false := by
      cases hr : rB (EA aw) 0 4 with
      | false => rfl
      | true =>
        have := (aw_rch (by omega)).1 (rB_iff.1 hr)
        revert this
        decide
    rw [hf] at this
    exact this
  have HB3 := Lib.hid (HB2.out.trans (hb.mono HB2.out.size))
  have H04 := Lib.hid h04
  clear h04 hb HB2 HK2
  go_wp2_with fail
  refine H04.out.mono ?_
  clear H04
  rintro e w4 ⟨rfl, hb⟩
  have HB4 := Lib.hid (HB3.out.trans (hb.mono HB3.out.size))
  clear hb HB3
  go_wp2_with fail
  go_ret
  exact ⟨rfl, HB4.out⟩

end Go.Proofs.Ytdohfjidnbhfnaa.Lc

/- The laws of cover: built. -/
namespace Go.Proofs.Ytdohfjidnbhfnaa.Lc
open Go Go.RowKit Go.Proofs.Ytdohfjidnbhfnaa.Mem Go.Proofs.Ytdohfjidnbhfnaa.Sl Go.Proofs.Ytdohfjidnbhfnaa.Scc Go.Proofs.Ytdohfjidnbhfnaa.Tj Go.Proofs.Ytdohfjidnbhfnaa.Lw Go.Proofs.Ytdohfjidnbhfnaa.Cv Go.Proofs.Ytdohfjidnbhfnaa.Rb Go.Proofs.YtdohfjidnbhfnaaW.PrintWords Go.Proofs.YtdohfjidnbhfnaaW.PrintLast
attribute [local go_sem ↓] Go.wp_at_zero Go.wp_at_succ
set_option linter.unusedSimpArgs false
set_option linter.unusedVariables false

def md (n : Nat) (x : Int) : Nat := ((IntKind.u64.wrap x).tmod (n : Int)).toNat
theorem md_eq (n : Nat) (x : Int) (hn : 0 < n) : (IntKind.u64.wrap x).tmod (n : Int) = (md n x : Int) ∧ md n x < n := by
  have h0 : 0 ≤ IntKind.u64.wrap x := by rw [IntKind.wrap_u64]; omega
  have h1 : 0 ≤ (IntKind.u64.wrap x).tmod (n : Int) := by rw [Int.tmod_eq_emod_of_nonneg h0]; exact Int.emod_nonneg _ (by omega)
  have h2 : (IntKind.u64.wrap x).tmod (n : Int) < n := by rw [Int.tmod_eq_emod_of_nonneg h0]; exact Int.emod_lt_of_pos _ (by omega)
  unfold md
  omega
def stp (n : Nat) (p : Int × Int) : List (Int × Int) := if md n p.1 < md n p.2 then [((md n p.1 : Int), (md n p.2 : Int))] else if md n p.2 < md n p.1 then [((md n p.2 : Int), (md n p.1 : Int))] else []
theorem stp_up (n : Nat) (hn : 0 < n) (R : List (Int × Int)) : Up n (R.flatMap (stp n)) := by
  intro p hp
  obtain ⟨q, _, hq⟩ := List.mem_flatMap.1 hp
  have h1 := (md_eq n q.1 hn).2
  have h2 := (md_eq n q.2 hn).2
  unfold stp at hq
  split at hq
  · simp only [List.mem_singleton] at hq
    subst hq
    dsimp only
    omega
  · split at hq
    · simp only [List.mem_singleton] at hq
      subst hq
      dsimp only
      omega
    · simp at hq
theorem stp_len (n : Nat) (R : List (Int × Int)) : (R.flatMap (stp n)).length ≤ R.length := by
  induction R with
  | nil => simp
  | cons a r ih =>
    rw [List.flatMap_cons, List.length_append, List.length_cons]
    have : (stp n a).length ≤ 1 := by
      unfold stp
      split
      · simp
      · split <;> simp
    omega
theorem stp_next {n j : Nat} {R : List (Int × Int)} {x : Int × Int} (hx : R[j]? = some x) : (R.take (j + 1)).flatMap (stp n) = (R.take j).flatMap (stp n) ++ stp n x := by
  rw [List.take_add_one, hx, List.flatMap_append]
  simp
theorem Kn.base {w0 w1 w : World} {gc n gn ga : Nat} {a0 arcs : List (Int × Int)} {nd : List Nd} {al : List Int} {L : Nat → List (Int × Int)} {rk : Nat → Nat} (h : Kn w0 w gc n a0 arcs gn ga nd al L rk) (hb : w1.heap.size ≤ w0.heap.size) : Kn w1 w gc n a0 arcs gn ga nd al L rk :=
  ⟨⟨h.c.c, h.c.ok, ⟨fun v hv hs => by
    obtain ⟨x, g, e1, e2, e3, e4, e5⟩ := h.c.ls.sets v hv hs
    exact ⟨x, g, e1, e2, Nat.le_trans hb e3, e4, e5⟩, h.c.ls.inj⟩, h.c.al, Nat.le_trans hb h.c.g1, Nat.le_trans hb h.c.g2, Nat.le_trans hb h.c.g3⟩, h.r, h.le, h.a, h.g0, h.sub⟩
theorem results_tct {P : Program} {fn : Func} {p u q : Tmp} {ty : TypeId} (h : fn.results = #[.tmp u, .cell p ty, .tmp q]) (tmps : Array Value) (w : World) (g : Nat) (t : TypeId) (cs : Array Value) (fr : Nat × Nat) (d : TypeDesc)
    (hp : tmps.getD p undef = .pointer (some ⟨g, 0, none⟩)) (hg : w.heap[g]? = some (.cells cs t fr))
    (hu : P.underlying ty = some d) (hd : (match d with | .struct _ | .array _ _ => true | _ => false) = true) (hi : (P.info? ty).map (·.size) = some cs.size) :
    (results fn tmps).run P w = .ok (.tuple #[tmps.getD u undef, .agg cs, tmps.getD q undef]) w := by
  have hp' : tmps[p]?.getD undef = .pointer (some ⟨g, 0, none⟩) := by simpa using hp
  simp [results, h, hp', asAddr, run_loadVar_row w g t ty cs fr d hg hu hd hi]

theorem off_kpt {g : Nat} {w w' : World} (h : Off g w w') : Kpt (· = g) w w' := ⟨h.os, h.tape, h.output, Nat.le_of_eq h.size.symm, fun k _ hn => h.heap k hn⟩
theorem Kn.off {w0 w w' : World} {gc n gn ga g : Nat} {a0 arcs : List (Int × Int)} {nd : List Nd} {al : List Int} {L : Nat → List (Int × Int)} {rk : Nat → Nat} {cs : List Value} {T : TypeId} (h : Kn w0 w gc n a0 arcs gn ga nd al L rk) (hO : Off g w w') (ha : At w g cs T)
    (t1 : 65 ≠ T) (t2 : 62 ≠ T) (t3 : 3 ≠ T) (t4 : 108 ≠ T) (t5 : 84 ≠ T) : Kn w0 w' gc n a0 arcs gn ga nd al L rk :=
  ⟨⟨h.c.c.kept (off_kpt hO) (h.c.c.hc.not ha t1) (h.c.c.hn.not ha t2) (h.c.c.ha.not ha t3), h.c.ok, ⟨fun v hv hs => by
    obtain ⟨x, g', e1, e2, e3, e4, e5⟩ := h.c.ls.sets v hv hs
    have e4' := e4
    obtain ⟨A', c', hat, _⟩ := e4'
    exact ⟨x, g', e1, e2, e3, e4.kept (off_kpt hO) (hat.not ha t4) (fun b cs hb => hb.not ha t5), e5⟩, h.c.ls.inj⟩, h.c.al, h.c.g1, h.c.g2, h.c.g3⟩, h.r, h.le, h.a, h.g0, h.sub⟩
theorem rdI_off {g : Nat} {w w' : World} {A : Option Addr} {l : List Int} (h : RdI w A l) (hO : Off g w w') (h0 : ∀ x, w.cell? ⟨g, 0, none⟩ ≠ some (.int .i64 x)) : RdI w' A l := fun j x hx => by
  obtain ⟨b, e1, e2⟩ := h j x hx
  refine ⟨b, e1, hO.cell e2 ?_⟩
  rintro rfl
  have hlt := (List.getElem?_eq_some_iff.1 hx).1
  obtain ⟨b', e3, e4⟩ := h 0 _ (List.getElem?_eq_getElem (by omega))
  rw [e1] at e3
  cases e3
  exact h0 _ e4
theorem rdE_off {g : Nat} {w w' : World} {A : Option Addr} {l : List (Int × Int)} (h : RdE w A l) (hO : Off g w w') (h0 : ∀ x, w.cell? ⟨g, 1, none⟩ ≠ some (.int .i64 x)) : RdE w' A l := fun j u v hx => by
  obtain ⟨b, e1, e2, e5⟩ := h j u v hx
  have hne : b ≠ g := by
    rintro rfl
    have hlt := (List.getElem?_eq_some_iff.1 hx).1
    obtain ⟨⟨u', v'⟩, hy⟩ : ∃ y, l[0]? = some y := ⟨_, List.getElem?_eq_getElem (by omega)⟩
    obtain ⟨b', e3, e4, _⟩ := h 0 u' v' hy
    rw [e1] at e3
    cases e3
    exact h0 _ e4
  exact ⟨b, e1, hO.cell e2 hne, hO.cell e5 hne⟩
theorem rdX_off {g : Nat} {w w' : World} {A : Option Addr} {l : List (Int × Int)} (h : RdX w A l) (he : RdE w A l) (hO : Off g w w') (h0 : ∀ x, w.cell? ⟨g, 1, none⟩ ≠ some (.int .i64 x)) : RdX w' A l := fun j hj => by
  obtain ⟨b, e1, e2, e5⟩ := h j hj
  have hne : b ≠ g := by
    rintro rfl
    obtain ⟨⟨u', v'⟩, hy⟩ : ∃ y, l[0]? = some y := ⟨_, List.getElem?_eq_getElem (by omega)⟩
    obtain ⟨b', e3, e4, _⟩ := he 0 u' v' hy
    rw [e1] at e3
    cases e3
    exact h0 _ e4
  exact ⟨b, e1, hO.cell e2 hne, hO.cell e5 hne⟩
theorem refC_off {g : Nat} {w w' : World} {n : Nat} {A AE AP AQ AR : Option Addr} {arcs : List (Int × Int)} {pars posts : List Int} {E : Nat → Nat → Prop} (h : RefC w n A AE AP AQ AR arcs pars posts E) (hO : Off g w w') (ha : At w g zC 30) (hn : 1 ≤ n) : RefC w' n A AE AP AQ AR arcs pars posts E := by
  have c0 := ha.cell 0 rfl
  have c1 := ha.cell 1 rfl
  have k0 : ∀ x, w.cell? ⟨g, 0, none⟩ ≠ some (.int .i64 x) := fun x hx => by rw [c0] at hx; cases hx
  have k1 : ∀ x, w.cell? ⟨g, 1, none⟩ ≠ some (.int .i64 x) := fun x hx => by rw [c1] at hx; cases hx
  refine ⟨rdI_off h.vs hO k0, rdE_off h.es hO k1, rdX_off h.ex h.es hO k1, rdI_off h.ps hO k0, rdI_off h.qs hO k0, hO.rdC h.rs ha (fun y hy => by simp [zC] at hy) (fun h1 b hb => ?_)⟩
  obtain ⟨b', B, cB, e1, e2, e3⟩ := h.rs 0 h1
  rw [e1] at hb
  cases hb
  rintro rfl
  rw [c0] at e2
  cases e2

def BuiltPost (w : World) (e : Ending) (w' : World) : Prop :=
  ∃ nn l gc gn ga nd al L rk A AE AP AQ AR c ce cp cq cr, 1 ≤ nn ∧ nn ≤ 40 ∧ e = .returned (.tuple #[.pointer (some ⟨gc, 0, none⟩), cV A nn c AE l.length ce AP nn cp AQ nn cq AR nn cr, .bool true]) ∧ Up nn l ∧ l.length ≤ 120 ∧
    Kn w w' gc nn l l gn ga nd al L rk ∧ RefC w' nn A AE AP AQ AR l (parsOf nn l) (postsOf nn (parsOf nn l)) (EA l) ∧ Below w.heap.size w w'

def tb8_6.T6 : Bool × List (List Nat × List Nat) := (true, [([], []), ([0], [0]), ([1], [1]), ([], []), ([3], [3]), ([2, 4], [2, 4]), ([5], [5]), ([], []), ([7], [7]), ([8], [8]), ([], []), ([10], [10]), ([9, 11], [9, 11]), ([12], [12]), ([6, 0, 1, 2, 3, 4, 5, 6], [6]), ([13, 14, 0, 1, 2, 3, 4, 5, 6, 7, 8, 9, 10, 11, 12, 13, 14], [13])])
def tb8_6.B6 : List Nat := [0, 1, 3, 0, 8, 31, 63, 0, 128, 384, 0, 1024, 3968, 8064, 127, 32767]
theorem tb8_6.tab6 : rtab .any (opsOf Try.f8 6) = tb8_6.T6 := by kernel_rfl
theorem tb8_6.bits6 : waitsOk tb8_6.T6.2 tb8_6.B6 = true := by kernel_rfl
def tb8_14.T14 : Bool × List (List Nat × List Nat) := (true, [([], []), ([], []), ([], []), ([2], [2]), ([3], [3]), ([4], [4]), ([5, 4], [4, 5]), ([4, 6], [4, 6]), ([0, 4, 0], [0]), ([1, 8, 0, 1, 8], [1]), ([7, 9, 0, 1, 2, 3, 4, 5, 6, 7, 8, 9], [7])])
def tb8_14.B14 : List Nat := [0, 0, 0, 4, 12, 28, 60, 124, 29, 287, 1023]
theorem tb8_14.tab14 : rtab .any (opsOf Try.f8 14) = tb8_14.T14 := by kernel_rfl
theorem tb8_14.bits14 : waitsOk tb8_14.T14.2 tb8_14.B14 = true := by kernel_rfl
set_option maxHeartbeats 16000000 in
set_option maxRecDepth 100000 in
theorem built_calls (w : World) (n : Int) (a1 : Value) (arcs : List (Int × Int)) (h1 : ArgV w a1 arcs.length 2 (arcs2 arcs)) :
    Calls Try.prog 8 #[.int .i64 n, a1] w fun e w' => BuiltPost w e w' := by
  obtain ⟨i2, hi2, hz2, hs2, hy2⟩ := info_parts Lw.info_arc
  have HA := Lib.hid h1
  obtain ⟨m1, m2⟩ := md_eq 40 n (by omega)
  obtain ⟨r, hr⟩ : ∃ r, md 40 n = r := ⟨_, rfl⟩
  obtain ⟨nn, hnn⟩ : ∃ nn, r + 1 = nn := ⟨_, rfl⟩
  rw [hr] at m1 m2
  have e1 : (IntKind.u64.wrap n).tmod 40 = (r : Int) := m1
  have e2 : wrap64 (r : Int) = (r : Int) := by unfold wrap64; omega
  have e3 : wrap64 (1 + (r : Int)) = (nn : Int) := by unfold wrap64; omega
  have hn1 : 1 ≤ nn := by omega
  have hn2 : nn ≤ 40 := by omega
  clear h1 m1 m2 hr
  go_enter Try.func8, Try.ntmps8
  go_wp2_with fail
  rw [show (1 : Int) + (r : Int) = (nn : Int) by omega]
  clear e1 e2 e3 hnn
  refine (cut2_calls _ a1 arcs 120 (HA.out.below ((Below.refl _ _).alloc (Nat.le_refl _) _)) (by omega)).mono ?_
  clear HA
  rintro e w2 ⟨v2, rfl, hO⟩
  obtain ⟨R, hR⟩ : ∃ R, arcs.take 120 = R := ⟨_, rfl⟩
  have hRn : R.length ≤ 120 := by rw [← hR, List.length_take]; omega
  rw [hR] at hO
  obtain ⟨A2, c2, rfl⟩ := Lw.own_slice hO.r
  have hg5 : At w2 w.heap.size zC 30 := (At.made (w := w) (a := zC.toArray) rfl rfl).below hO.b (by simp)
  have hbel : Below w.heap.size w w2 := ((Below.refl _ _).alloc (Nat.le_refl _) (.cells zC.toArray 30)).trans (hO.b.mono (by simp))
  obtain ⟨g5, hg5e⟩ : ∃ g5, w.heap.size = g5 := ⟨_, rfl⟩
  have HRA := Lib.hid (RdA.of_own hO.r).1
  have HG5 := Lib.hid (And.intro (hg5e ▸ hg5) (And.intro hbel hg5e))
  rw [hg5e]
  clear hO hR hg5 hbel hg5e arcs
  go_wp2_with fail
  go_loopg [7, 24] R.length (fun kq v7 v24 w' => ∃ j : Nat, v24 = .int .i64 (j : Int) ∧ Hid (j + kq = R.length ∧ One w2 38 2 v7 ((R.take j).flatMap (stp nn)).length (arcs2 ((R.take j).flatMap (stp nn))) w'))
  case atStart => exact ⟨0, rfl, Lib.hid ⟨by omega, by simpa [arcs2] using One.start⟩⟩
  case round =>
    obtain ⟨j, rfl, hI⟩ := hrel
    obtain ⟨hjk, hO⟩ := hI.out
    clear hI
    by_cases hj : j < R.length
    · obtain ⟨k1, rfl⟩ : ∃ k1, gk = k1 + 1 := ⟨gk - 1, by omega⟩
      obtain ⟨⟨u, v⟩, hxx⟩ : ∃ x, R[j] = x := ⟨_, rfl⟩
      have hx : R[j]? = some (u, v) := by rw [List.getElem?_eq_getElem hj, hxx]
      obtain ⟨ba, rfl, qu, qv⟩ := (HRA.out.below hO.b) j u v hx
      have hnx := stp_next (n := nn) hx
      have hll := stp_len nn (R.take j)
      have hlt : (R.take j).length ≤ 120 := by rw [List.length_take]; omega
      obtain ⟨l0, hl0⟩ : ∃ l0, (R.take j).flatMap (stp nn) = l0 := ⟨_, rfl⟩
      rw [hl0] at hO hnx hll
      have HO := Lib.hid hO
      have HNX := Lib.hid hnx
      have j0 : (0 : Int) ≤ (j : Int) := by omega
      have j1 : (j : Int) < (R.length : Int) := by omega
      have j2 : (R.length : Int) ≤ 120 := by omega
      clear hO hnx hx hxx hl0 hj
      go_upto_region 6 with (fail)
      refine gen_world (fun W => At W wr.heap.size [.int .i64 u, .int .i64 v] 38 ∧ One w2 38 2 u7 l0.length (arcs2 l0) W) ?_ ?_
      · exact ⟨At.made rfl rfl, HO.out.below ((Below.refl _ _).alloc (Nat.le_refl _) _)⟩
      obtain ⟨g9, hg9⟩ : ∃ g9, wr.heap.size = g9 := ⟨_, rfl⟩
      rw [hg9]
      clear HO qu qv hg9
      rintro wr ⟨hat, hO⟩
      have qu := hat.cell 0 rfl
      have qv := hat.cell 1 rfl
      have HO := Lib.hid hO
      obtain ⟨a1, a2⟩ := md_eq nn u (by omega)
      obtain ⟨b1, b2⟩ := md_eq nn v (by omega)
      have hst : stp nn (u, v) = if md nn u < md nn v then [((md nn u : Int), (md nn v : Int))] else if md nn v < md nn u then [((md nn v : Int), (md nn u : Int))] else [] := rfl
      obtain ⟨ma, hma⟩ : ∃ ma, md nn u = ma := ⟨_, rfl⟩
      obtain ⟨mb, hmb⟩ : ∃ mb, md nn v = mb := ⟨_, rfl⟩
      rw [hma] at a1 a2 hst
      rw [hmb] at b1 b2 hst
      have e1 : IntKind.u64.wrap (nn : Int) = (nn : Int) := by rw [IntKind.wrap_u64]; omega
      have e2 : wrap64 (ma : Int) = (ma : Int) := by unfold wrap64; omega
      have e3 : wrap64 (mb : Int) = (mb : Int) := by unfold wrap64; omega
      have nz : ¬ nn = 0 := by omega
      have HST := Lib.hid hst
      clear hO hat hma hmb hst
      refine start_ (n := 16) (S := fun w' => w'.cell? ⟨g9, 0, none⟩ = some (.int .i64 u) ∧ w'.cell? ⟨g9, 1, none⟩ = some (.int .i64 v)) (ds := []) (bA 16 0) (by kernel_rfl) rfl rfl ⟨qu, qv⟩ (fun hHeld => ?_)
      refine with_tabW tb8_6.tab6 tb8_6.bits6 (fun HT_ HW_ => ?_)
      refine pure_ (i := 0) (N := some 28) (v := ?_) (a' := ?_) (bA 16 1) rfl rfl (any_of HT_.out (by kernel_rfl)) (fun _ _ _ h => h) (Or.inl ⟨by rfl, ?_⟩) ?_ ?_
      rotate_left; · intro w'; go_simp; with_reducible rfl
      rotate_left; · simp only [Act.put, pA, pB, pC, pD, pE]; rfl
      refine pure_ (i := 3) (N := some 31) (v := ?_) (a' := ?_) (bA 16 9) rfl rfl (any_of HT_.out (by kernel_rfl)) (fun _ _ _ h => h) (Or.inl ⟨by rfl, ?_⟩) ?_ ?_
      rotate_left; · intro w'; go_simp; with_reducible rfl
      rotate_left; · simp only [Act.put, pA, pB, pC, pD, pE]; rfl
      refine pure_ (i := 4) (N := some 32) (v := ?_) (a' := ?_) (bA 16 25) rfl rfl (any_of HT_.out (by kernel_rfl)) (fun _ _ _ h => h) (Or.inl ⟨by rfl, ?_⟩) ?_ ?_
      rotate_left; · intro w'; go_simp; with_reducible rfl
      rotate_left; · simp only [Act.put, pA, pB, pC, pD, pE]; rfl
      refine pure_ (i := 7) (N := some 35) (v := ?_) (a' := ?_) (bA 16 153) rfl rfl (any_of HT_.out (by kernel_rfl)) (fun _ _ _ h => h) (Or.inl ⟨by rfl, ?_⟩) ?_ ?_
      rotate_left; · intro w'; go_simp; with_reducible rfl
      rotate_left; · simp only [Act.put, pA, pB, pC, pD, pE]; rfl
      refine pure_ (i := 10) (N := some 38) (v := ?_) (a' := ?_) (bA 16 1177) rfl rfl (any_of HT_.out (by kernel_rfl)) (fun _ _ _ h => h) (Or.inl ⟨by rfl, ?_⟩) ?_ ?_
      rotate_left; · intro w'; go_simp; with_reducible rfl
      rotate_left; · simp only [Act.put, pA, pB, pC, pD, pE]; rfl
      refine pure_ (i := 11) (N := some 39) (v := ?_) (a' := ?_) (bA 16 3225) rfl rfl (any_of HT_.out (by kernel_rfl)) (fun _ _ _ h => h) (Or.inl ⟨by rfl, ?_⟩) ?_ ?_
      rotate_left; · intro w'; go_simp; with_reducible rfl
      rotate_left; · simp only [Act.put, pA, pB, pC, pD, pE]; rfl
      refine take_ (i := 1) (N := some 29) (v := ?_) (a' := ?_) (bA 16 3227) rfl rfl (take_ofW HT_.out HW_.out (by kernel_rfl)) (fun _ _ _ h => h) (Or.inl ⟨by rfl, ?_⟩) hHeld ?_ ?_
      rotate_left
      · rintro w' ⟨s0, s1⟩
        go_simp; with_reducible rfl
      rotate_left; · simp only [Act.put, pA, pB, pC, pD, pE]; rfl
      refine pure_ (i := 2) (N := some 30) (v := ?_) (a' := ?_) (bA 16 3231) rfl rfl (any_of HT_.out (by kernel_rfl)) (fun _ _ _ h => h) (Or.inl ⟨by rfl, ?_⟩) ?_ ?_
      rotate_left; · intro w'; go_simp; with_reducible rfl
      rotate_left; · simp only [Act.put, pA, pB, pC, pD, pE]; rfl
      refine pure_ (i := 5) (N := some 33) (v := ?_) (a' := ?_) (bA 16 3263) rfl rfl (any_of HT_.out (by kernel_rfl)) (fun _ _ _ h => h) (Or.inl ⟨by rfl, ?_⟩) ?_ ?_
      rotate_left; · intro w'; go_simp; with_reducible rfl
      rotate_left; · simp only [Act.put, pA, pB, pC, pD, pE]; rfl
      refine pure_ (i := 6) (N := some 34) (v := ?_) (a' := ?_) (bA 16 3327) rfl rfl (any_of HT_.out (by kernel_rfl)) (fun _ _ _ h => h) (Or.inl ⟨by rfl, ?_⟩) ?_ ?_
      rotate_left; · intro w'; go_simp; with_reducible rfl
      rotate_left; · simp only [Act.put, pA, pB, pC, pD, pE]; rfl
      refine pure_ (i := 14) (N := some 10) (v := ?_) (a' := ?_) (bA 16 19711) rfl rfl (any_of HT_.out (by kernel_rfl)) (fun _ _ _ h => h) (Or.inl ⟨by rfl, ?_⟩) ?_ ?_
      rotate_left; · intro w'; go_simp; with_reducible rfl
      rotate_left; · simp only [Act.put, pA, pB, pC, pD, pE]; rfl
      refine take_ (i := 8) (N := some 36) (v := ?_) (a' := ?_) (bA 16 19967) rfl rfl (take_ofW HT_.out HW_.out (by kernel_rfl)) (fun _ _ _ h => h) (Or.inl ⟨by rfl, ?_⟩) hHeld ?_ ?_
      rotate_left
      · rintro w' ⟨s0, s1⟩
        go_simp; with_reducible rfl
      rotate_left; · simp only [Act.put, pA, pB, pC, pD, pE]; rfl
      refine pure_ (i := 9) (N := some 37) (v := ?_) (a' := ?_) (bA 16 20479) rfl rfl (any_of HT_.out (by kernel_rfl)) (fun _ _ _ h => h) (Or.inl ⟨by rfl, ?_⟩) ?_ ?_
      rotate_left; · intro w'; go_simp; with_reducible rfl
      rotate_left; · simp only [Act.put, pA, pB, pC, pD, pE]; rfl
      refine pure_ (i := 12) (N := some 40) (v := ?_) (a' := ?_) (bA 16 24575) rfl rfl (any_of HT_.out (by kernel_rfl)) (fun _ _ _ h => h) (Or.inl ⟨by rfl, ?_⟩) ?_ ?_
      rotate_left; · intro w'; go_simp; with_reducible rfl
      rotate_left; · simp only [Act.put, pA, pB, pC, pD, pE]; rfl
      refine pure_ (i := 13) (N := some 41) (v := ?_) (a' := ?_) (bA 16 32767) rfl rfl (any_of HT_.out (by kernel_rfl)) (fun _ _ _ h => h) (Or.inl ⟨by rfl, ?_⟩) ?_ ?_
      rotate_left; · intro w'; go_simp; with_reducible rfl
      rotate_left; · simp only [Act.put, pA, pB, pC, pD, pE]; rfl
      refine pure_ (i := 15) (N := some 11) (v := ?_) (a' := ?_) (bA 16 65535) rfl rfl (any_of HT_.out (by kernel_rfl)) (fun _ _ _ h => h) (Or.inl ⟨by rfl, ?_⟩) ?_ ?_
      rotate_left; · intro w'; go_simp; with_reducible rfl
      rotate_left; · simp only [Act.put, pA, pB, pC, pD, pE]; rfl
      refine done_ (done_of HT_.out (by kernel_rfl)) ?_
      clear hHeld HT_ HW_
      refine gen_then (fun W => One w2 38 2 u7 l0.length (arcs2 l0) W) ?_ ?_
      · exact HO.out.below ((Below.refl _ _).drew)
      clear qu qv HO wr
      intro wr hO
      have HO := Lib.hid hO
      clear hO
      by_cases h1 : ma < mb
      · have f1 : decide (ma < mb) = true := decide_eq_true h1
        have HN := Lib.hid (show (R.take (j + 1)).flatMap (stp nn) = l0 ++ [((ma : Int), (mb : Int))] by rw [HNX.out, HST.out, if_pos h1])
        clear HNX HST h1 a1 b1 e1 e2 e3
        go_wp2_with ((at_builtin; (refine wpList_append_any rfl (.tmp 45) (.tmp 49) 22 rfl w2.heap.size 38 i2 (.agg #[.int .i64 0, .int .i64 0]) 2 16 Try.underlying22 hi2 hz2 hs2 hy2 rfl (by omega) _ _ _ rfl (HO.out.r.alloc (.cells #[.int .i64 (ma : Int), .int .i64 (mb : Int)] 38)) _ rfl 1 [.int .i64 (ma : Int), .int .i64 (mb : Int)] (RdV.lit _ #[.int .i64 (ma : Int), .int .i64 (mb : Int)] 38 1 2 1 rfl (by simp [Value.oneCell'])) (by unfold maxLen; omega) (by omega) (by have := HO.out.b.size; simp; omega) ?_; intro v5 w5 ho hg hn; have hone := (HO.out.below ((Below.refl _ _).alloc (Nat.le_refl _) (.cells #[.int .i64 (ma : Int), .int .i64 (mb : Int)] 38))).grow ho hg; have HO5 := Lib.hid hone; clear ho hg hn hone HO)))
        go_roundg k1
        case measure => omega
        case rel =>
          refine ⟨j + 1, by go_num, Lib.hid ⟨by omega, ?_⟩⟩
          rw [HN.out, List.length_append, arcs2_append]
          exact HO5.out
      · have f1 : decide (ma < mb) = false := decide_eq_false h1
        by_cases h2 : mb < ma
        · have f2 : decide (mb < ma) = true := decide_eq_true h2
          have HN := Lib.hid (show (R.take (j + 1)).flatMap (stp nn) = l0 ++ [((mb : Int), (ma : Int))] by rw [HNX.out, HST.out, if_neg h1, if_pos h2])
          clear HNX HST h1 h2 a1 b1 e1 e2 e3
          go_wp2_with ((at_builtin; (refine wpList_append_any rfl (.tmp 54) (.tmp 58) 22 rfl w2.heap.size 38 i2 (.agg #[.int .i64 0, .int .i64 0]) 2 16 Try.underlying22 hi2 hz2 hs2 hy2 rfl (by omega) _ _ _ rfl (HO.out.r.alloc (.cells #[.int .i64 (mb : Int), .int .i64 (ma : Int)] 38)) _ rfl 1 [.int .i64 (mb : Int), .int .i64 (ma : Int)] (RdV.lit _ #[.int .i64 (mb : Int), .int .i64 (ma : Int)] 38 1 2 1 rfl (by simp [Value.oneCell'])) (by unfold maxLen; omega) (by omega) (by have := HO.out.b.size; simp; omega) ?_; intro v5 w5 ho hg hn; have hone := (HO.out.below ((Below.refl _ _).alloc (Nat.le_refl _) (.cells #[.int .i64 (mb : Int), .int .i64 (ma : Int)] 38))).grow ho hg; have HO5 := Lib.hid hone; clear ho hg hn hone HO)))
          go_roundg k1
          case measure => omega
          case rel =>
            refine ⟨j + 1, by go_num, Lib.hid ⟨by omega, ?_⟩⟩
            rw [HN.out, List.length_append, arcs2_append]
            exact HO5.out
        · have f2 : decide (mb < ma) = false := decide_eq_false h2
          have HN := Lib.hid (show (R.take (j + 1)).flatMap (stp nn) = l0 by rw [HNX.out, HST.out, if_neg h1, if_neg h2, List.append_nil])
          clear HNX HST h1 h2 a1 b1 e1 e2 e3
          go_wp2
          go_roundg k1
          case measure => omega
          case rel =>
            refine ⟨j + 1, by go_num, Lib.hid ⟨by omega, ?_⟩⟩
            rw [HN.out]
            exact HO.out
    · obtain rfl : j = R.length := by omega
      rw [List.take_length] at hO
      have hup := stp_up nn (by omega) R
      have hll := stp_len nn R
      obtain ⟨l, hl⟩ : ∃ l, R.flatMap (stp nn) = l := ⟨_, rfl⟩
      rw [hl] at hO hup hll
      obtain ⟨A7, c7, rfl⟩ := Lw.own_slice hO.r
      have hra := (RdA.of_own hO.r).1
      obtain ⟨wr5, hwr5⟩ : ∃ wr5, wr = wr5 := ⟨_, rfl⟩
      rw [hwr5] at hra hO ⊢
      clear hwr5
      have hB := build_kn wr5 nn A7 c7 l hra (by omega) (by omega) hup.acy
      have HB := Lib.hid hB
      have HX := Lib.hid (And.intro hup (And.intro hra hO))
      have hln : l.length ≤ 120 := by omega
      clear hO hup hll hl hra hB hj hjk
      go_wp2_with fail
      refine HB.out.mono ?_
      clear HB
      rintro e w5 ⟨gc, gn, ga, nd, al, L, rk, comp, mm, rfl, hK, hco, hab, hb⟩
      obtain ⟨hup, hra, hO⟩ := HX.out
      have hR := refbuild_calls w5 nn A7 c7 mm l comp (hra.below hb) (by omega) (by omega) (fun _ => hco) (fun _ _ => ⟨rk, hK.r⟩)
      have HR := Lib.hid hR
      have HK := Lib.hid (And.intro hK (And.intro hab hb))
      clear hK hco hab hb hup hra hO hR
      go_wp2_with fail
      refine HR.out.mono ?_
      clear HR
      rintro e w6 ⟨hb6, ⟨h, _⟩ | ⟨_, h, _⟩ | ⟨_, _, A, AE, AP, AQ, AR, c, ce, cp, cq, cr, rfl, hRC⟩⟩
      · exact absurd HX.out.1.good h
      · rw [HK.out.2.1] at h
        cases h
      have HW := Lib.hid (And.intro hb6 hRC)
      clear hb6 hRC
      unfold cV
      go_upto_region 14 with (fail)
      have hg5 : At w6 g5 zC 30 := by
        have h2 := HG5.out.1.below HX.out.2.2.b HG5.out.1.lt
        have h3 := h2.below HK.out.2.2 h2.lt
        exact h3.below HW.out.1 h3.lt
      have hlt := hg5.lt
      refine gen_world (fun W => At W w6.heap.size [.slice A nn c, .slice AE l.length ce, .int .i64 0, .int .i64 0, .slice AP nn cp, .slice AQ nn cq, .slice AR nn cr] 30 ∧ At W g5 zC 30 ∧ Below w6.heap.size w6 W) ?_ ?_
      · exact ⟨At.made rfl rfl, hg5.al, (Below.refl _ _).alloc (Nat.le_refl _) _⟩
      have n14 : g5 ≠ w6.heap.size := Nat.ne_of_lt hlt
      obtain ⟨g14, hg14⟩ : ∃ g14, w6.heap.size = g14 := ⟨_, rfl⟩
      have HE := Lib.hid hg14
      rw [hg14] at n14 ⊢
      clear hg5 hlt hg14
      rintro wr ⟨h14, h5, hb7⟩
      have q0 := h14.cell 0 rfl
      have q1 := h14.cell 1 rfl
      have q2 := h14.cell 2 rfl
      have q3 := h14.cell 3 rfl
      have q4 := h14.cell 4 rfl
      have q5 := h14.cell 5 rfl
      have q6 := h14.cell 6 rfl
      have f0 := h5.free 0
      have c0 := h5.cell 0 rfl
      have f1 := h5.free 1
      have c1 := h5.cell 1 rfl
      have f2 := h5.free 2
      have c2 := h5.cell 2 rfl
      have f3 := h5.free 3
      have c3 := h5.cell 3 rfl
      have f4 := h5.free 4
      have c4 := h5.cell 4 rfl
      have f5 := h5.free 5
      have c5 := h5.cell 5 rfl
      have f6 := h5.free 6
      have c6 := h5.cell 6 rfl
      have H7 := Lib.hid (And.intro h5 hb7)
      clear h14 h5 hb7
      refine start_ (n := 11) (S := fun w' => w'.cell? ⟨g14, 0, none⟩ = some (.slice A nn c) ∧ w'.cell? ⟨g14, 1, none⟩ = some (.slice AE l.length ce) ∧ w'.cell? ⟨g14, 2, none⟩ = some (.int .i64 0) ∧ w'.cell? ⟨g14, 3, none⟩ = some (.int .i64 0) ∧ w'.cell? ⟨g14, 4, none⟩ = some (.slice AP nn cp) ∧ w'.cell? ⟨g14, 5, none⟩ = some (.slice AQ nn cq) ∧ w'.cell? ⟨g14, 6, none⟩ = some (.slice AR nn cr)) (ds := [9]) (bA 11 0) (by kernel_rfl) rfl rfl ⟨q0, q1, q2, q3, q4, q5, q6⟩ (fun hHeld => ?_)
      refine with_tabW tb8_14.tab14 tb8_14.bits14 (fun HT_ HW_ => ?_)
      refine pure_ (i := 0) (N := some 73) (v := ?_) (a' := ?_) (bA 11 1) rfl rfl (any_of HT_.out (by kernel_rfl)) (fun _ _ _ h => h) (Or.inl ⟨by rfl, ?_⟩) ?_ ?_
      rotate_left; · intro w'; go_simp; with_reducible rfl
      rotate_left; · simp only [Act.put, pA, pB, pC, pD, pE]; rfl
      refine pure_ (i := 2) (N := some 75) (v := ?_) (a' := ?_) (bA 11 5) rfl rfl (any_of HT_.out (by kernel_rfl)) (fun _ _ _ h => h) (Or.inl ⟨by rfl, ?_⟩) ?_ ?_
      rotate_left; · intro w'; go_simp; with_reducible rfl
      rotate_left; · simp only [Act.put, pA, pB, pC, pD, pE]; rfl
      refine pure_ (i := 3) (N := some 76) (v := ?_) (a' := ?_) (bA 11 13) rfl rfl (any_of HT_.out (by kernel_rfl)) (fun _ _ _ h => h) (Or.inl ⟨by rfl, ?_⟩) ?_ ?_
      rotate_left; · intro w'; go_simp; with_reducible rfl
      rotate_left; · simp only [Act.put, pA, pB, pC, pD, pE]; rfl
      refine pure_ (i := 4) (N := some 77) (v := ?_) (a' := ?_) (bA 11 29) rfl rfl (any_of HT_.out (by kernel_rfl)) (fun _ _ _ h => h) (Or.inl ⟨by rfl, ?_⟩) ?_ ?_
      rotate_left; · intro w'; go_simp; with_reducible rfl
      rotate_left; · simp only [Act.put, pA, pB, pC, pD, pE]; rfl
      refine pure_ (i := 5) (N := some 78) (v := ?_) (a' := ?_) (bA 11 61) rfl rfl (any_of HT_.out (by kernel_rfl)) (fun _ _ _ h => h) (Or.inl ⟨by rfl, ?_⟩) ?_ ?_
      rotate_left; · intro w'; go_simp; with_reducible rfl
      rotate_left; · simp only [Act.put, pA, pB, pC, pD, pE]; rfl
      refine pure_ (i := 6) (N := some 79) (v := ?_) (a' := ?_) (bA 11 125) rfl rfl (any_of HT_.out (by kernel_rfl)) (fun _ _ _ h => h) (Or.inl ⟨by rfl, ?_⟩) ?_ ?_
      rotate_left; · intro w'; go_simp; with_reducible rfl
      rotate_left; · simp only [Act.put, pA, pB, pC, pD, pE]; rfl
      refine pure_ (i := 7) (N := some 80) (v := ?_) (a' := ?_) (bA 11 253) rfl rfl (any_of HT_.out (by kernel_rfl)) (fun _ _ _ h => h) (Or.inl ⟨by rfl, ?_⟩) ?_ ?_
      rotate_left; · intro w'; go_simp; with_reducible rfl
      rotate_left; · simp only [Act.put, pA, pB, pC, pD, pE]; rfl
      refine pure_ (i := 8) (N := some 4) (v := ?_) (a' := ?_) (bA 11 509) rfl rfl (any_of HT_.out (by kernel_rfl)) (fun _ _ _ h => h) (Or.inl ⟨by rfl, ?_⟩) ?_ ?_
      rotate_left; · intro w'; go_simp; with_reducible rfl
      rotate_left; · simp only [Act.put, pA, pB, pC, pD, pE]; rfl
      refine take_ (i := 1) (N := some 74) (v := ?_) (a' := ?_) (bA 11 511) rfl rfl (take_ofW HT_.out HW_.out (by kernel_rfl)) (fun _ _ _ h => h) (Or.inl ⟨by rfl, ?_⟩) hHeld ?_ ?_
      rotate_left
      · rintro w' ⟨s0, s1, s2, s3, s4, s5, s6⟩
        go_simp; with_reducible rfl
      rotate_left; · simp only [Act.put, pA, pB, pC, pD, pE]; rfl
      refine last_ (i := 9) (N := none) (bA 11 1023) rfl rfl (one_of HT_.out (by kernel_rfl)) (by decide) (fun K hK => ?_)
      refine skip_ (w1 := ?_) (by rfl) rfl ?_ ?_
      rotate_left; · go_simp; rfl
      refine hK.out _ _ ?_; clear hK K
      refine pure_ (i := 10) (N := some 6) (v := ?_) (a' := ?_) (bA 11 2047) rfl rfl (any_of HT_.out (by kernel_rfl)) (fun _ _ _ h => h) (Or.inl ⟨by rfl, ?_⟩) ?_ ?_
      rotate_left; · intro w'; go_simp; with_reducible rfl
      rotate_left; · simp only [Act.put, pA, pB, pC, pD, pE]; rfl
      refine done_ (done_of HT_.out (by kernel_rfl)) ?_
      clear hHeld HT_ HW_
      go_wp2_with fail
      (try simp only [Exit.inBlock, Exit.then])
      have h5d := H7.out.1
      have ha := (((((((h5d.set 0 (.slice A nn c)).set 1 (.slice AE l.length ce)).set 2 (.int .i64 0)).set 3 (.int .i64 0)).set 4 (.slice AP nn cp)).set 5 (.slice AQ nn cq)).set 6 (.slice AR nn cr)).drew
      have hO := ((((((((Off.refl g5 wr).set 0 (.slice A nn c)).set 1 (.slice AE l.length ce)).set 2 (.int .i64 0)).set 3 (.int .i64 0)).set 4 (.slice AP nn cp)).set 5 (.slice AQ nn cq)).set 6 (.slice AR nn cr)).drew
      refine bodyPost_ret (results_tct rfl _ _ g5 30 #[.slice A nn c, .slice AE l.length ce, .int .i64 0, .int .i64 0, .slice AP nn cp, .slice AQ nn cq, .slice AR nn cr] (0, 0) _ rfl ha Try.underlying30 rfl (by kernel_rfl)) rfl ?_
      have hb7 : Below w6.heap.size w6 wr := by rw [HE.out]; exact H7.out.2
      have hk1 : Kn wr5 wr gc nn l l gn ga nd al L rk := (HK.out.1.below HW.out.1).below hb7
      have hwb : Below w.heap.size w wr5 := HG5.out.2.1.trans (HX.out.2.2.b.mono HG5.out.2.1.size)
      have hwb6 : Below w.heap.size w wr := (hwb.trans (HK.out.2.2.mono hwb.size)).trans ((HW.out.1.trans (hb7.mono HW.out.1.size)).mono (Nat.le_trans hwb.size HK.out.2.2.size))
      refine ⟨nn, l, gc, gn, ga, nd, al, L, rk, A, AE, AP, AQ, AR, c, ce, cp, cq, cr, hn1, hn2, rfl, HX.out.1, hln, (hk1.off hO h5d (by decide) (by decide) (by decide) (by decide) (by decide)).base hwb.size, ?_, hwb6.trans (hO.below (Nat.le_of_eq HG5.out.2.2) hwb6.size)⟩
      have hrc := refC_off ((HW.out.2).below hb7) hO h5d (by omega)
      rw [PE_rng' HX.out.1.good] at hrc
      exact hrc

end Go.Proofs.Ytdohfjidnbhfnaa.Lc

/- CoverAgain, walked. -/
namespace Go.Proofs.Ytdohfjidnbhfnaa.Lc
open Go Go.RowKit Go.Proofs.Ytdohfjidnbhfnaa.Mem Go.Proofs.Ytdohfjidnbhfnaa.Sl Go.Proofs.Ytdohfjidnbhfnaa.Scc Go.Proofs.Ytdohfjidnbhfnaa.Tj Go.Proofs.Ytdohfjidnbhfnaa.Lw Go.Proofs.Ytdohfjidnbhfnaa.Cv Go.Proofs.Ytdohfjidnbhfnaa.Rb Go.Proofs.YtdohfjidnbhfnaaW.PrintWords Go.Proofs.YtdohfjidnbhfnaaW.PrintLast
attribute [local go_sem ↓] Go.wp_at_zero Go.wp_at_succ
set_option linter.unusedSimpArgs false
set_option linter.unusedVariables false

theorem Kn.kpt {w0 w w' : World} {gc n gn ga : Nat} {a0 arcs : List (Int × Int)} {nd : List Nd} {al : List Int} {L : Nat → List (Int × Int)} {rk : Nat → Nat} {p : Nat → Prop} (h : Kn w0 w gc n a0 arcs gn ga nd al L rk) (hk : Kpt p w w')
    (hp : ∀ g cs T, At w g cs T → T ≠ 38 → ¬ p g) : Kn w0 w' gc n a0 arcs gn ga nd al L rk :=
  ⟨⟨h.c.c.kept hk (hp _ _ _ h.c.c.hc (by decide)) (hp _ _ _ h.c.c.hn (by decide)) (hp _ _ _ h.c.c.ha (by decide)), h.c.ok, ⟨fun v hv hs => by
    obtain ⟨x, g', e1, e2, e3, e4, e5⟩ := h.c.ls.sets v hv hs
    have e4' := e4
    obtain ⟨A', c', hat, _⟩ := e4'
    exact ⟨x, g', e1, e2, e3, e4.kept hk (hp _ _ _ hat (by decide)) (fun b cs hb => hp _ _ _ hb (by decide)), e5⟩, h.c.ls.inj⟩, h.c.al, h.c.g1, h.c.g2, h.c.g3⟩, h.r, h.le, h.a, h.g0, h.sub⟩
theorem Kn.grown {w0 w w' : World} {gc n gn ga : Nat} {a0 arcs : List (Int × Int)} {nd : List Nd} {al : List Int} {L : Nat → List (Int × Int)} {rk : Nat → Nat} (h : Kn w0 w gc n a0 arcs gn ga nd al L rk) {B s m : Nat} {v : Value} {xs : List Value} (ho : w.ownsRow B 38 s v m xs) (hg : w.grownBy w' v.ownBlock) : Kn w0 w' gc n a0 arcs gn ga nd al L rk :=
  h.kpt (p := fun k => some k = v.ownBlock) ((Kpt.refl _ w).grown hg (fun k hk _ => hk.symm)) (fun g cs T ha hT hh => own_off ho ha hT hh)
theorem gen_any {T : World → Prop} {w : World} (I : World → Prop) (h : I w) (k : ∀ W, I W → T W) : T w := k w h
theorem take_next {l : List (Int × Int)} {j : Nat} {x : Int × Int} (hx : l[j]? = some x) : l.take (j + 1) = l.take j ++ [x] := by rw [List.take_add_one, hx]; rfl


end Go.Proofs.Ytdohfjidnbhfnaa.Lc
