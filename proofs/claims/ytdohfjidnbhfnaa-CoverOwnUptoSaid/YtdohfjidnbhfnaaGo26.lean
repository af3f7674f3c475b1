/- spans.Set[int32]: All; cover: Label. -/
import Derived.Test.YtdohfjidnbhfnaaGo25
import Derived.Test.YtdohfjidnbhfnaaGo20
namespace Go.Proofs.Ytdohfjidnbhfnaa.Cv
open Go Go.RowKit Go.Proofs.Ytdohfjidnbhfnaa.Mem Go.Proofs.Ytdohfjidnbhfnaa.Sp Go.Proofs.Ytdohfjidnbhfnaa.Rf Go.Proofs.Ytdohfjidnbhfnaa.Lw
attribute [local go_sem] Oper.semAt_some
set_option linter.unusedSimpArgs false
set_option linter.unusedVariables false

theorem all_calls (w : World) (g : Nat) (l : List (Int × Int)) (hS : SetAt w g l) (hl : Ok l) :
    Calls Try.prog 37 #[.pointer (some ⟨g, 0, none⟩)] w fun e w' => ∃ Bs A c, e = .returned (.func (.func 67) #[] #[.pointer (some ⟨Bs, 0, none⟩)]) ∧ w.heap.size ≤ Bs ∧ At w' Bs [.slice A l.length c] 86 ∧
      (l = [] ∨ ∃ b, A = some ⟨b, 0, none⟩ ∧ w.heap.size ≤ b ∧ b < w'.heap.size ∧ RdB w' b l) ∧ Below w.heap.size w w' := by
  have HR := Lib.hid (runs_calls w g l hS hl)
  clear hS hl
  go_enter Try.func37, Try.ntmps37
  go_wp2_with fail
  refine HR.out.mono ?_
  rintro e w1 ⟨⟨A, c, rfl, _, ho⟩, hb⟩
  have H := Lib.hid (And.intro (RdB.of_own ho) hb)
  clear ho hb HR
  go_wp2_with fail
  refine (vals_calls A l.length c w1).mono ?_
  rintro e w2 ⟨rfl, rfl⟩
  go_wp2_with fail
  go_ret
  refine ⟨w1.heap.size, A, c, rfl, H.out.2.size, At.made rfl rfl, ?_, H.out.2.alloc H.out.2.size _⟩
  rcases H.out.1 with h | ⟨b, h1, h2, h3, h4⟩
  · exact .inl h
  · exact .inr ⟨b, h1, h2, by simp; omega, h4.kept ((Kpt.refl (fun _ => False) _).alloc _) id⟩

def spans2 (l : List (Int × Int)) : List Value := l.flatMap fun p => [.int .i64 p.1, .int .i64 p.2]
theorem spans2_length : ∀ l : List (Int × Int), (spans2 l).length = l.length * 2
  | [] => rfl
  | p :: l => by
    have := spans2_length l
    simp only [spans2, List.flatMap_cons, List.length_append, List.length_cons, List.length_nil] at *
    omega
theorem spans2_snoc (l : List (Int × Int)) (p : Int × Int) : spans2 l ++ [.int .i64 p.1, .int .i64 p.2] = spans2 (l ++ [p]) := by simp [spans2]
def wrapP (p : Int × Int) : Int × Int := (wrap64 p.1, wrap64 p.2)
theorem info_span : (Try.prog.info? 55).map (fun i => (i.zero, i.size, i.bytes)) = some (some (.agg #[.int .i64 0, .int .i64 0]), 2, 16) := by kernel_rfl

set_option maxHeartbeats 4000000 in
set_option maxRecDepth 100000 in
theorem label_calls {w : World} {gc gn ga n : Nat} {nd : List Nd} {al : List Int} (h : CovS w gc gn ga n nd al) (v g : Nat) (x : Nd) (l : List (Int × Int)) (hn : n ≤ 1000000) (hx : nd[v]? = some x) (hg : x.lab = some g) (hS : SetAt w g l) (hl : Ok l) :
    Calls Try.prog 17 #[.pointer (some ⟨gc, 0, none⟩), .int .i64 v] w fun e w' => ∃ v', e = .returned v' ∧ w'.ownsRow w.heap.size 55 2 v' l.length (spans2 l) ∧ Below w.heap.size w w' := by
  have hv : v < n := by rw [← h.ln]; exact (List.getElem?_eq_some_iff.1 hx).1
  have c0 := h.hc.cell 0 rfl
  have c1 := h.hn.cell _ (nds_at nd v x hx).2.2.2
  rw [hg] at c1
  unfold labV at c1
  have i0 : (0 : Int) ≤ (v : Int) := by omega
  have i1 : (v : Int) < (n : Int) := by omega
  have i2 : (n : Int) ≤ 1000000 := by omega
  have l0 := h.hc.lt
  have l1 := h.hn.lt
  have q0 := Nat.ne_of_lt l0
  have q1 := Nat.ne_of_lt l1
  have HI := Lib.hid (is_yes h v hn hv)
  have HS := Lib.hid (And.intro hS hl)
  clear h hv hx hg hS hl
  refine (callsIn_wide (n := 5)).1 ?_
  refine callsIn_of_wp_marks Try.func17 rfl trivial ?_ rfl
  simp only [Try.ntmps17, List.size_toArray, List.length_cons, List.length_nil, Nat.reduceAdd, Nat.reduceSub, Array.replicate_succ, Array.replicate_zero, List.push_toArray, List.append_toArray, List.nil_append, List.cons_append]
  refine wpIn_wide.2 ?_
  go_wp2_with fail
  refine HI.out.mono ?_
  rintro e w' ⟨rfl, hw⟩
  rw [hw]
  clear hw
  go_wp2_with fail
  refine (all_calls _ g l (HS.out.1.alloc _) HS.out.2).mono ?_
  rintro e w1 ⟨Bs, A, c, rfl, hBs, hat, hrd, hb⟩
  go_wp2_with fail
  obtain ⟨B0, hB0⟩ : ∃ B0, w.heap.size = B0 := ⟨_, rfl⟩
  rw [hB0]
  have hat0 : At w1 B0 [.slice none 0 0] 52 := by
    rw [← hB0]
    exact (At.made rfl rfl).below hb (by simp)
  have hbw : Below w.heap.size w w1 := ((Below.refl _ _).alloc (Nat.le_refl _) _).trans (hb.mono (by simp))
  rw [World.size_alloc] at hBs hrd
  have hsz := hat0.lt
  have hBs2 := hat.lt
  obtain ⟨is, his, hz0, hz1, hz2⟩ := info_parts info_span
  have hlen := HS.out.2.len
  refine wpIn_wide (n := 5).1 ?_
  let p : Nat → Prop := fun k => k = B0 ∨ w1.heap.size ≤ k
  refine wpIn_rangeFunc_ownH (F := Fence.wide) (n := 5) rfl (by omega) (gf := 67) (lb := #[.pointer (some ⟨Bs, 0, none⟩)]) rfl trivial (enters_of Try.func67 (by kernel_rfl) rfl)
    (vals_stops 4 Bs c A l p HS.out.2.len w1 hat (hrd.imp id fun ⟨b, e1, e2, e3, e4⟩ => ⟨b, e1, by rintro (h | h) <;> omega, e4⟩))
    (fun h k => h.trans k) (fun W k o o' hk ho _ _ => (Kpt.refl p W).grown (grownBy_putObj' W k o') fun j e _ => by cases e; exact .inr hk) (Below.refl _ _) (fun _ => rfl)
    (fun pre W => (∃ v', At W B0 [v'] 52 ∧ W.ownsRow w1.heap.size 55 2 v' pre.length (spans2 (pre.map wrapP))) ∧ Kpt p w1 W)
    (fun _ _ _ => False)
    ?hI (fun _ _ _ _ _ hs _ _ => hs) ⟨⟨_, hat0, World.ownsRow_nil _ _ _ _⟩, Kpt.refl _ _⟩
    (fun x a' W => ∃ Bx, At W Bx [.int .i32 x.1, .int .i32 x.2] 84 ∧ w1.heap.size ≤ Bx ∧ a' = { tmps := #[.pointer (some ⟨gc, 0, none⟩), .int .i64 v, undef, undef, .slice none 0 0, .pointer (some ⟨B0, 0, none⟩), .pointer (some ⟨Bx, 0, none⟩), .pointer (some ⟨gc, 0, none⟩), .int .i64 v, .bool true, .bool false, .pointer (some ⟨gc, 0, none⟩), .pointer (some ⟨gc, 0, none⟩), .pointer (some ⟨gc, 0, none⟩), .slice (some ⟨gn, 0, none⟩) n n, .int .i64 v, .pointer (some ⟨gn, v * 4, none⟩), .pointer (some ⟨gn, v * 4 + 3, none⟩), .pointer (some ⟨g, 0, none⟩), .func (.func 67) #[] #[.pointer (some ⟨Bs, 0, none⟩)], .agg #[.int .i32 x.1, .int .i32 x.2], undef, undef, undef, undef, undef, undef, undef, undef, undef, undef, undef], defers := [] })
    ?hAx ?assign ?body ?done ?stop
  case hI =>
    rintro pre W W' row ⟨⟨v', h1, h2⟩, h3⟩ hg hr
    have hk := kpt_turn hg hr
    refine ⟨⟨v', h1.kept hk (h1.nc _), h2.kept hg ?_⟩, h3.trans' hk fun i hi hn => by have := hn.1; omega⟩
    rcases h2.2 with ⟨rfl, _⟩ | ⟨g', cap, cur, rfl, _, hgb, _⟩
    · exact .inl rfl
    · refine .inr fun e' => ?_
      obtain ⟨_, o, ho, hc⟩ := hr g' (by simpa [Value.ownBlock] using e'.symm)
      rw [hgb] at ho
      cases ho
      cases hc
  case hAx =>
    rintro x a' _ W W' row ⟨Bx, h1, h2, h3⟩ hg hr
    exact ⟨Bx, h1.kept (kpt_turn hg hr) (h1.nc _), h2, h3⟩
  case assign =>
    rintro k pre x W K ⟨⟨v', h1, h2⟩, h3⟩ hK
    gi_wp2
    exact hK _ _ ((KeepsOthers.alloc _ _).from _) ((Kpt.refl _ _).alloc _) ⟨⟨v', h1.alloc _, h2.alloc _⟩, h3.alloc _⟩ ⟨W.heap.size, At.made rfl rfl, h3.size, rfl⟩
  case body =>
    rintro k pre x a' W hk0 ⟨r, hr⟩ ⟨⟨v', h1, h2⟩, h3⟩ ⟨Bx, h4, h5, rfl⟩ hlt
    have d0 := h1.cell 0 rfl
    have f0 := h1.free 0
    have d1 := h4.cell 0 rfl
    have d2 := h4.cell 1 rfl
    have HW := Lib.hid (And.intro h1 (And.intro h2 (And.intro h3 (And.intro h4 h5))))
    clear h1 h2 h3 h4 h5
    gi_wp2_with (gi_at_builtin; refine wpListIn_append_own _ rfl _ _ 52 rfl w1.heap.size 55 is (.agg #[.int .i64 0, .int .i64 0]) 2 16 Try.underlying52 his hz0 hz1 hz2 rfl (by omega) _ pre.length (spans2 (pre.map wrapP)) rfl (HW.out.2.1.alloc _) ⟨W.heap.size, 0, none⟩ 1 1 [.int .i64 (wrap64 x.1), .int .i64 (wrap64 x.2)] rfl rfl (World.news_of_block (heap_alloc_new W (.cells #[.int .i64 (wrap64 x.1), .int .i64 (wrap64 x.2)] 55))) (by simp [Value.oneCell']) (by unfold maxLen; omega) (by omega) (by have := HW.out.2.2.1.size; simp; omega) ?_; intro v2 w2 ho hgr _; obtain ⟨g2, c2, rfl⟩ := ownsRow_succ ho; have hat2 := (HW.out.1.alloc (.cells #[.int .i64 (wrap64 x.1), .int .i64 (wrap64 x.2)] 55)).grown hgr (own_off HW.out.2.1 HW.out.1 (by decide)); have d3 := hat2.cell 0 rfl; have f3 := hat2.free 0; have HZ := Lib.hid (And.intro ho (And.intro hgr hat2)); clear ho hgr hat2)
    have hkp : Kpt p W (w2.setCell ⟨B0, 0, none⟩ (.slice (some ⟨g2, 0, none⟩) (pre.length + 1) c2)) :=
      (((Kpt.refl p W).alloc _).grown HZ.out.2.1 fun j e _ => .inr (HW.out.2.1.lt j e).1).set (fun _ => .inl rfl) _
    refine ⟨?_, hkp, ⟨_, HZ.out.2.2.put rfl, ?_⟩, HW.out.2.2.1.trans hkp⟩
    · exact ((KeepsOthers.alloc W _).from _).trans (KeepsFrom.trans (B := w1.heap.size) (keepsFrom_own (HW.out.2.1.alloc _) HZ.out.2.1) ((KeepsOthers.setCell _ _ _).from _))
    · have ho := HZ.out.1
      have e1 : spans2 (pre.map wrapP) ++ [.int .i64 (wrap64 x.1), .int .i64 (wrap64 x.2)] = spans2 ((pre ++ [x]).map wrapP) := by rw [List.map_append]; exact spans2_snoc _ (wrapP x)
      rw [e1] at ho
      rw [List.length_append]
      exact ownsRow_setCell_other ho (fun e => own_off ho HZ.out.2.2 (by decide) e.symm) _
  case done =>
    rintro D ys W hD rfl ⟨⟨v', h1, h2⟩, h3⟩ hK
    have d0 := h1.cell 0 rfl
    have hfin : Below w.heap.size w W := ⟨h3.os.trans hbw.os, h3.tape.trans hbw.tape, h3.output.trans hbw.output, Nat.le_trans hbw.size h3.size, fun k hk => (h3.block k (by have := hbw.size; omega) (by rintro (e | e) <;> omega)).trans (hbw.block k hk)⟩
    have hl2 : ys.map wrapP = ys := by
      have : ∀ r ∈ ys, wrapP r = r := fun r hr => by
        have := HS.out.2.at hr
        obtain ⟨r1, r2⟩ := r
        dsimp only at this
        unfold wrapP wrap64
        dsimp only
        congr 1 <;> omega
      exact (List.map_congr_left this).trans (List.map_id _)
    rw [hl2] at h2
    have HF := Lib.hid (And.intro h1 (And.intro h2 hfin))
    clear h1 h2 h3 hfin hl2 hat hrd hb hbw hat0
    go_wp2
    refine ⟨by simp, .inl ⟨_, _, rfl, run_takeDeferred hK, ?_⟩⟩
    refine ⟨_, results_tmp rfl _ _ _, v', rfl, ?_, ?_⟩
    · have h2 := HF.out.2.1
      refine own_mono (h2.kept (grownBy_putObj' W D _) ?_) (by omega)
      rcases h2.2 with ⟨rfl, _⟩ | ⟨g', cap, cur, rfl, _, hgb, _⟩
      · exact .inl rfl
      · refine .inr fun e' => ?_
        obtain rfl : g' = D := by simpa [Value.ownBlock] using e'
        rw [hgb] at hK
        cases hK
    · exact Rf.Below.putObj_new HF.out.2.2 (by omega) hK
  case stop =>
    rintro D c pre W _ _ h _
    exact h.elim

set_option maxHeartbeats 4000000 in
theorem label_no {w : World} {gc gn ga n : Nat} {nd : List Nd} {al : List Int} (h : CovS w gc gn ga n nd al) (v : Int) (hn : n ≤ 1000000) (hv : ¬ (0 ≤ v ∧ v < n)) :
    Calls Try.prog 17 #[.pointer (some ⟨gc, 0, none⟩), .int .i64 v] w fun e w' => e = .returned (.slice none 0 0) ∧ w' = w := by
  have HI := Lib.hid (is_no h v hn hv)
  clear h hv
  go_enter Try.func17, Try.ntmps17
  go_wp2_with fail
  refine HI.out.mono ?_
  rintro e w' ⟨rfl, rfl⟩
  go_wp2
  go_ret
  exact ⟨rfl, rfl⟩

end Go.Proofs.Ytdohfjidnbhfnaa.Cv

/- The references' Sorted, walked. -/
namespace Go.Proofs.Ytdohfjidnbhfnaa.Lw
open Go Go.RowKit Go.Proofs.Ytdohfjidnbhfnaa.Mem Go.Proofs.Ytdohfjidnbhfnaa.Sl Go.Proofs.Ytdohfjidnbhfnaa.Scc Go.Proofs.Ytdohfjidnbhfnaa.Tj Go.Proofs.YtdohfjidnbhfnaaW.PrintWords Go.Proofs.YtdohfjidnbhfnaaW.PrintLast
attribute [local go_sem ↓] Go.wp_at_zero Go.wp_at_succ
set_option linter.unusedSimpArgs false
set_option linter.unusedVariables false

theorem ins_ok {old : List Int} {a : Int} {k : Nat} (hs : old.Pairwise (· ≤ ·)) (hlow : ∀ x ∈ old.take k, x ≤ a) (hhigh : ∀ x ∈ old.drop k, a < x) {t : List Int} (ht : t.Perm old) : sorted (t ++ [a]) = old.take k ++ a :: old.drop k := by
  refine sorted_of ?_ ?_
  · have h1 : (t ++ [a]).Perm (a :: old) := List.perm_append_comm.trans (ht.cons a)
    refine h1.trans ?_
    have h2 : (old.take k ++ a :: old.drop k).Perm (a :: (old.take k ++ old.drop k)) := List.perm_middle
    rw [List.take_append_drop] at h2
    exact h2.symm
  · rw [List.pairwise_append, List.pairwise_cons]
    have hs' := hs
    rw [← List.take_append_drop k old, List.pairwise_append] at hs'
    refine ⟨hs'.1, ⟨fun x hx => Int.le_of_lt (hhigh x hx), hs'.2.1⟩, fun x hx y hy => ?_⟩
    rcases List.mem_cons.1 hy with rfl | hy
    · exact hlow x hx
    · exact hs'.2.2 x hx y hy

end Go.Proofs.Ytdohfjidnbhfnaa.Lw

/- The references' Place, walked. -/
namespace Go.Proofs.Ytdohfjidnbhfnaa.Lw
open Go Go.RowKit Go.Proofs.Ytdohfjidnbhfnaa.Mem Go.Proofs.Ytdohfjidnbhfnaa.Sl Go.Proofs.Ytdohfjidnbhfnaa.Scc Go.Proofs.Ytdohfjidnbhfnaa.Tj Go.Proofs.YtdohfjidnbhfnaaW.PrintWords Go.Proofs.YtdohfjidnbhfnaaW.PrintLast
attribute [local go_sem ↓] Go.wp_at_zero Go.wp_at_succ
set_option linter.unusedSimpArgs false
set_option linter.unusedVariables false

def plI (sl : List Int) (v : Int) : Int := if sl.contains v = true then (place sl v : Int) else -1

theorem plI_at {sl : List Int} (hs : sl.Pairwise (· < ·)) {v : Int} {lo : Nat} (h : sl[lo]? = some v) : plI sl v = (lo : Int) := by
  obtain ⟨hl, he⟩ := List.getElem?_eq_some_iff.1 h
  unfold plI
  rw [if_pos (by simpa using List.mem_of_getElem? h), ← he, place_at sl lo hs hl]
theorem plI_none {sl : List Int} {v : Int} {lo : Nat} (h1 : ∀ (i : Nat) (x : Int), i < lo → sl[i]? = some x → x < v) (h2 : ∀ (i : Nat) (x : Int), lo ≤ i → sl[i]? = some x → v ≤ x) (hs : sl.Pairwise (· < ·)) (h3 : sl[lo]? ≠ some v) : plI sl v = -1 := by
  unfold plI
  rw [if_neg]
  intro hc
  have hm : v ∈ sl := by simpa using hc
  obtain ⟨j, hj, he⟩ := List.getElem_of_mem hm
  have hjs : sl[j]? = some v := by rw [List.getElem?_eq_getElem hj, he]
  rcases Nat.lt_trichotomy j lo with h | h | h
  · have := h1 j v h hjs; omega
  · subst h; exact h3 hjs
  · have hlo : lo < sl.length := by omega
    have h4 := h2 lo _ (Nat.le_refl _) (List.getElem?_eq_getElem hlo)
    have h5 := List.pairwise_iff_getElem.1 hs lo j hlo hj h
    omega

def gV (A : Option Addr) (n c : Nat) (E : Value) : Value := .agg #[.slice A n c, E, .int .i64 0, .int .i64 0]


set_option maxHeartbeats 8000000 in
set_option maxRecDepth 100000 in
theorem place_calls (w : World) (A AE : Option Addr) (c m ce : Nat) (sl : List Int) (v : Int) (hv : RdI w A sl) (hs : sl.Pairwise (· < ·)) (hl : sl.length ≤ 1000000) :
    Calls Try.prog 66 #[gV A sl.length c (.slice AE m ce), .int .i64 v] w fun e w' => e = .returned (.int .i64 (plI sl v)) ∧ Below w.heap.size w w' := by
  obtain ⟨n, hn⟩ : ∃ n, sl.length = n := ⟨_, rfl⟩
  rw [hn] at hl ⊢
  have HV := Lib.hid hv
  have HS := Lib.hid hs
  have HN := Lib.hid hn
  clear hv hs hn
  unfold gV
  go_enter Try.func66, Try.ntmps66
  go_upto_region 1 with (fail)
  refine gen_world (fun W => At W w.heap.size [.slice A n c, .slice AE m ce, .int .i64 0, .int .i64 0] 27 ∧ Below w.heap.size w W) ?_ ?_
  · exact ⟨At.made rfl rfl, (Below.refl _ _).alloc (Nat.le_refl _) _⟩
  obtain ⟨gb, hgb⟩ : ∃ gb, w.heap.size = gb := ⟨_, rfl⟩
  rw [hgb]
  rintro W ⟨hat, hb⟩
  have cg := hat.cell 0 rfl
  have HAT := Lib.hid hat
  have HB := Lib.hid (hgb ▸ hb : Below w.heap.size w W)
  clear hat hb hgb
  refine start_ (n := 5) (S := fun w' => w'.cell? ⟨gb, 0, none⟩ = some (.slice A n c)) (ds := []) (bA 5 0) (by kernel_rfl) rfl rfl (cg) (fun hHeld => ?_)
  refine pure_ (i := 0) (N := some 8) (v := ?_) (a' := ?_) (bA 5 1) rfl rfl (by kernel_rfl) (fun _ _ _ h => h) (Or.inl ⟨by rfl, ?_⟩) ?_ ?_
  rotate_left; · intro w'; go_simp; with_reducible rfl
  rotate_left; · simp only [Act.put, pA, pB, pC, pD, pE]; rfl
  refine pure_ (i := 3) (N := some 5) (v := ?_) (a' := ?_) (bA 5 9) rfl rfl (by kernel_rfl) (fun _ _ _ h => h) (Or.inl ⟨by rfl, ?_⟩) ?_ ?_
  rotate_left; · intro w'; go_simp; with_reducible rfl
  rotate_left; · simp only [Act.put, pA, pB, pC, pD, pE]; rfl
  refine take_ (i := 1) (N := some 9) (v := ?_) (a' := ?_) (bA 5 11) rfl rfl (by kernel_rfl) (fun _ _ _ h => h) (Or.inl ⟨by rfl, ?_⟩) hHeld ?_ ?_
  rotate_left
  · intro w' s0
    go_simp; with_reducible rfl
  rotate_left; · simp only [Act.put, pA, pB, pC, pD, pE]; rfl
  refine pure_ (i := 2) (N := some 10) (v := ?_) (a' := ?_) (bA 5 15) rfl rfl (by kernel_rfl) (fun _ _ _ h => h) (Or.inl ⟨by rfl, ?_⟩) ?_ ?_
  rotate_left; · intro w'; go_simp; with_reducible rfl
  rotate_left; · simp only [Act.put, pA, pB, pC, pD, pE]; rfl
  refine pure_ (i := 4) (N := some 6) (v := ?_) (a' := ?_) (bA 5 31) rfl rfl (by kernel_rfl) (fun _ _ _ h => h) (Or.inl ⟨by rfl, ?_⟩) ?_ ?_
  rotate_left; · intro w'; go_simp; with_reducible rfl
  rotate_left; · simp only [Act.put, pA, pB, pC, pD, pE]; rfl
  refine done_ (by kernel_rfl) ?_
  clear hHeld; clear cg
  refine gen_then (fun W => At W gb [.slice A n c, .slice AE m ce, .int .i64 0, .int .i64 0] 27 ∧ Below w.heap.size w W) ?_ ?_
  · exact ⟨HAT.out.drew, HB.out.drew⟩
  clear HAT HB
  rintro W0 ⟨hat, hb⟩
  have cg := hat.cell 0 rfl
  have HB := Lib.hid hb
  clear hat hb
  go_wp2
  go_loopg [5, 6] n (fun kq v5 v6 w' => ∃ lo hi : Nat, v5 = .int .i64 (lo : Int) ∧ v6 = .int .i64 (hi : Int) ∧ Hid (lo + kq = hi ∧ hi ≤ n ∧ w' = W0 ∧ (∀ (i : Nat) (x : Int), i < lo → sl[i]? = some x → x < v) ∧ ∀ (i : Nat) (x : Int), hi ≤ i → sl[i]? = some x → v ≤ x))
  case atStart => exact ⟨0, n, rfl, rfl, Lib.hid ⟨by omega, Nat.le_refl _, rfl, fun i x h => by omega, fun i x h hx => by have := (List.getElem?_eq_some_iff.1 hx).1; have := HN.out; omega⟩⟩
  case round =>
    obtain ⟨lo, hi, rfl, rfl, hI⟩ := hrel
    obtain ⟨hlh, hhn, hw, h1, h2⟩ := hI.out
    subst hw
    clear hI
    cases gk with
    | zero =>
      obtain rfl : hi = lo := by omega
      by_cases hln : hi < n
      · obtain ⟨x, hx⟩ : ∃ x, sl[hi]? = some x := ⟨_, List.getElem?_eq_getElem (by have := HN.out; omega)⟩
        obtain ⟨b, rfl, cx⟩ := (HV.out.below HB.out) hi x hx
        have j0 : (0 : Int) ≤ (hi : Int) := by omega
        have j1 : (hi : Int) < (n : Int) := by omega
        have j2 : (n : Int) ≤ 1000000 := by omega
        by_cases hxv : x = v
        · subst hxv
          have hp := plI_at HS.out hx
          have HP := Lib.hid hp
          clear hp hx h1 h2 hlh hln
          go_wp2
          go_ret
          exact ⟨by rw [HP.out]; rfl, HB.out⟩
        · have hp := plI_none h1 h2 HS.out (by rw [hx]; simpa using hxv)
          have HP := Lib.hid hp
          have e1 : (x == v) = false := beq_eq_false_iff_ne.2 hxv
          clear hp hx h1 h2 hlh hln hxv
          go_wp2
          go_ret
          exact ⟨by rw [HP.out]; rfl, HB.out⟩
      · have hp := plI_none h1 h2 HS.out (by rw [List.getElem?_eq_none (by have := HN.out; omega)]; simp)
        have HP := Lib.hid hp
        obtain rfl : hi = n := by omega
        clear hp h1 h2 hlh hln
        go_wp2
        go_ret
        exact ⟨by rw [HP.out]; rfl, HB.out⟩
    | succ k =>
      obtain ⟨mid, hmid⟩ : ∃ mid, (lo + hi) / 2 = mid := ⟨_, rfl⟩
      have hm1 : lo ≤ mid := by omega
      have hm2 : mid < hi := by omega
      obtain ⟨x, hx⟩ : ∃ x, sl[mid]? = some x := ⟨_, List.getElem?_eq_getElem (by have := HN.out; omega)⟩
      obtain ⟨b, rfl, cx⟩ := (HV.out.below HB.out) mid x hx
      have hmono : ∀ (i j : Nat) (p q : Int), i ≤ j → sl[i]? = some p → sl[j]? = some q → p ≤ q := by
        intro i j p q hij hp hq
        obtain ⟨a1, a2⟩ := List.getElem?_eq_some_iff.1 hp
        obtain ⟨b1, b2⟩ := List.getElem?_eq_some_iff.1 hq
        rcases Nat.eq_or_lt_of_le hij with rfl | h
        · rw [hp] at hq; cases hq; exact Int.le_refl _
        · have := List.pairwise_iff_getElem.1 HS.out i j a1 b1 h; omega
      have l0 : (0 : Int) ≤ (lo : Int) := by omega
      have l1 : (lo : Int) < (hi : Int) := by omega
      have j0 : (0 : Int) ≤ (mid : Int) := by omega
      have j1 : (mid : Int) < (n : Int) := by omega
      have j2 : (n : Int) ≤ 1000000 := by omega
      have e2 : ((lo : Int) + (hi : Int)).tdiv 2 = (mid : Int) := by rw [Int.tdiv_eq_ediv_of_nonneg (by omega), ← hmid]; omega
      have e3 : ((lo : Int) + (hi : Int)) / 2 = (mid : Int) := by rw [← hmid]; omega
      have e1 : ∀ y : Int, y = (lo : Int) + (hi : Int) → wrap64 y = y := fun y hy => by subst hy; unfold wrap64; omega
      have HL := Lib.hid (show lo + (k + 1) = hi ∧ hi ≤ n ∧ lo ≤ mid ∧ mid < hi from ⟨hlh, hhn, hm1, hm2⟩)
      by_cases hxv : x < v
      · have H1 := Lib.hid (show ∀ (i : Nat) (p : Int), i < mid + 1 → sl[i]? = some p → p < v from fun i p hi' hp => by have := hmono i mid p x (by omega) hp hx; omega)
        have H2 := Lib.hid h2
        clear h1 h2 hmono hx hmid hm1 hm2 hlh hhn
        go_wp2
        go_roundg (hi - (mid + 1))
        case measure => have := HL.out; omega
        case rel => exact ⟨mid + 1, hi, by go_num, rfl, Lib.hid ⟨by have := HL.out; omega, HL.out.2.1, rfl, H1.out, H2.out⟩⟩
      · have H1 := Lib.hid h1
        have H2 := Lib.hid (show ∀ (i : Nat) (p : Int), mid ≤ i → sl[i]? = some p → v ≤ p from fun i p hi' hp => by have := hmono mid i x p hi' hx hp; omega)
        clear h1 h2 hmono hx hmid hm1 hm2 hlh hhn
        go_wp2
        go_roundg (mid - lo)
        case measure => have := HL.out; omega
        case rel => exact ⟨lo, mid, rfl, by go_num, Lib.hid ⟨by have := HL.out; omega, by have := HL.out; omega, rfl, H1.out, H2.out⟩⟩

end Go.Proofs.Ytdohfjidnbhfnaa.Lw

/- The references' Error, walked. -/
namespace Go.Proofs.Ytdohfjidnbhfnaa.Lw
open Go Go.RowKit Go.Proofs.Ytdohfjidnbhfnaa.Mem Go.Proofs.Ytdohfjidnbhfnaa.Sl Go.Proofs.Ytdohfjidnbhfnaa.Scc Go.Proofs.Ytdohfjidnbhfnaa.Tj Go.Proofs.YtdohfjidnbhfnaaW.PrintWords Go.Proofs.YtdohfjidnbhfnaaW.PrintLast
attribute [local go_sem ↓] Go.wp_at_zero Go.wp_at_succ
set_option linter.unusedSimpArgs false
set_option linter.unusedVariables false

theorem keep_at {w w' : World} {a : Addr} {v : Value} (hb : Below w.heap.size w w') (hc : w.cell? a = some v) : w'.cell? a = some v := (hb.cell (World.block_lt_of_cell? w _ hc)).trans hc

theorem gen_loopw {P : Program} {c : Code} {Q : Exit → Act → World → Prop} {a : Act} {w : World} (I : World → Prop) (h : I w) (k : ∀ W, I W → Code.wp P c Q a W) : Code.wp P c Q a w := k w h


theorem Below.drewL {w w' : World} (h : Below w.drew.heap.size w.drew w') : Below w.heap.size w w' := ⟨h.os, h.tape, h.output, h.size, h.block⟩

end Go.Proofs.Ytdohfjidnbhfnaa.Lw
