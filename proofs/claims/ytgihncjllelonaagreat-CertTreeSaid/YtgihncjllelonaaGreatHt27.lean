/- cert.Parts, walked. -/
import Derived.Test.YtgihncjllelonaaGreatHt24
import Derived.Test.YtgihncjllelonaaGreatHt26
import Derived.Shelf.SlSortCmp.NoneTotal
import Derived.Test.YtgihncjllelonaaGreatHt25
namespace Go.Proofs.YtgihncjllelonaaGreat.Ce
open Go Go.RowKit Go.MapKept Go.Proofs.YtgihncjllelonaaGreat.Mem Go.Proofs.YtgihncjllelonaaGreat.Sl Go.Proofs.YtgihncjllelonaaGreat.Lw Go.Proofs.YtgihncjllelonaaGreat.Tb Go.Proofs.YtgihncjllelonaaGreat.Scc Go.Proofs.YtgihncjllelonaaGreat.Tj Go.Proofs.YtgihncjllelonaaGreatW.PrintWords Go.Proofs.YtgihncjllelonaaGreatW.PrintLast
attribute [local go_sem ↓] Go.wp_at_zero Go.wp_at_succ
set_option linter.unusedSimpArgs false
set_option linter.unusedVariables false

def RdLO (w : World) (A : Option Addr) (ls : List (List Int)) : Prop := ∀ (i : Nat) (r : List Int), ls[i]? = some r → ∃ b off B c, A = some ⟨b, off, none⟩ ∧ w.cell? ⟨b, off + i, none⟩ = some (.slice B r.length c) ∧ RdO w B r ∧ r.length ≤ 17592186044416
theorem RdLO.below {w w' : World} {A : Option Addr} {ls : List (List Int)} (h : RdLO w A ls) (hb : Below w.heap.size w w') : RdLO w' A ls := fun i r hr => by
  obtain ⟨b, off, B, c, h1, h2, h3, h4⟩ := h i r hr
  exact ⟨b, off, B, c, h1, cell_below hb h2, h3.below hb, h4⟩
theorem rows_of {W : World} {B : Nat} : ∀ (vals : List Value) (ls : List (List Int)), vals.length = ls.length → (∀ (i : Nat) (v : Value) (l : List Int), vals[i]? = some v → ls[i]? = some l → W.ownsRow B 3 1 v l.length (ints l)) → (∀ l ∈ ls, l.length ≤ 17592186044416) → ∃ rows : List (RowT W B), rows.map encR = vals ∧ rows.map rowL = ls
  | [], [], _, _, _ => ⟨[], rfl, rfl⟩
  | [], _ :: _, h, _, _ => by simp at h
  | _ :: _, [], h, _, _ => by simp at h
  | v :: vals, l :: ls, h, hr, hb => by
    obtain ⟨rows, e1, e2⟩ := rows_of vals ls (by simpa using h) (fun i v l h1 h2 => hr (i + 1) v l (by simpa using h1) (by simpa using h2)) (fun l hl => hb l (List.mem_cons_of_mem _ hl))
    obtain ⟨x, hx⟩ : ∃ x : RowT W B, encR x = v ∧ rowL x = l := ⟨⟨(v, l), hr 0 v l rfl rfl, hb l List.mem_cons_self⟩, rfl, rfl⟩
    exact ⟨x :: rows, by rw [List.map_cons, e1, hx.1], by rw [List.map_cons, e2, hx.2]⟩
theorem rdL_rows {W W' : World} {B g n c : Nat} {rows m : List (RowT W B)} (h0 : W.ownsRow B 22 1 (.slice (some ⟨g, 0, none⟩) n c) n (rows.map encR)) (h : W'.ownsRow B 22 1 (.slice (some ⟨g, 0, none⟩) n c) n (m.map encR)) (hk : Kpt (fun k => k = g) W W') : RdL W' (some ⟨g, 0, none⟩) (m.map rowL) := fun i r hr => by
  rw [List.getElem?_map] at hr
  cases hm : m[i]? with
  | none => rw [hm] at hr; cases hr
  | some x =>
    rw [hm] at hr
    cases hr
    have hi : i < n := by
      have h1 := (List.getElem?_eq_some_iff.1 hm).1
      have h2 := h.1
      rw [List.length_map] at h2
      omega
    obtain ⟨A, cx, ex, hrd⟩ := encR_rd h0 hk x
    refine ⟨g, A, cx, rfl, ?_, hrd⟩
    rw [h.cellAt i (by omega), List.getElem?_map, hm, Option.map_some, ex]
theorem sortGr_calls {w W : World} {v9 : Value} {vals : List Value} {ls : List (List Int)} (h : Gr w W v9 vals ls) (hb : ∀ l ∈ ls, l.length ≤ 17592186044416) (hn : ls.length ≤ 100000) : ∃ A c, v9 = .slice A ls.length c ∧
    Calls Tryz.prog 66 #[.slice A ls.length c, .func (.func 67) #[] #[]] W fun e w' => e = .returned (.tuple #[]) ∧ ∃ L : List (List Int), L.Perm ls ∧ L.Pairwise (fun x y => cmpL x y ≤ 0) ∧ RdL w' A L ∧ Below w.heap.size w w' := by
  obtain ⟨rows, e1, e2⟩ := rows_of vals ls h.n h.r hb
  have ho := h.o
  rw [h.n, ← e1] at ho
  rcases ho.2 with ⟨rfl, h0⟩ | ⟨g, cap, cur, rfl, hbg, _⟩
  · obtain rfl : ls = [] := List.length_eq_zero_iff.1 h0
    refine ⟨none, 0, rfl, (AnyF.slices_SortFunc_none { Tryz.sortLists with } none 0 _ W).mono ?_⟩
    rintro e w' ⟨rfl, rfl⟩
    exact ⟨rfl, [], List.Perm.refl _, List.Pairwise.nil, RdL.nil _ _, h.b⟩
  · refine ⟨_, cap, rfl, (sortRows_calls W w.heap.size g ls.length cap rows ho hn).mono ?_⟩
    rintro e w' ⟨rfl, m, hp, hs, ho', hk⟩
    refine ⟨rfl, m.map rowL, ?_, ?_, rdL_rows ho ho' hk, h.b.trans (hk.to_below fun k hk' => ⟨Nat.lt_of_lt_of_le hk' h.b.size, fun e => by
      have e : k = g := e
      omega⟩)⟩
    · rw [← e2]
      exact hp.map _
    · rw [List.pairwise_map]
      exact hs
set_option maxHeartbeats 8000000 in
set_option maxRecDepth 100000 in
theorem parts_calls (w : World) (Av Aa Ac : Option Addr) (cv ca cc : Nat) (vs : List Int) (arcs : List (Int × Int)) (comps : List (List Int)) (hv : RdI w Av vs) (ha : RdA w Aa arcs) (hc : RdLO w Ac comps) (hvl : vs.length ≤ 400) (hal : arcs.length ≤ 400) (k code : Nat) (gs : List (List Int)) (hR : ofS vs arcs (sorted vs) k = some (code, gs)) (hz : code ≠ 0 → gs = []) (hsort : gs.Pairwise (fun x y => cmpL x y ≤ 0)) (hgl : gs.length ≤ 400) :
    Calls Tryz.prog 23 #[.slice Av vs.length cv, .slice Aa arcs.length ca, .slice Ac comps.length cc] w fun e w' => ∃ b : Bool, e = .returned (.bool b) ∧ (b = true ↔ PartsOk code gs comps) ∧ Below w.heap.size w w' := by
  obtain ⟨i3, hi3, hz3, hs3, hy3⟩ := info_parts info_ints
  have hof := of_rd w Av Aa cv ca vs arcs hv ha (by omega) (by omega) k code gs hR hz
  obtain ⟨n, hn⟩ : ∃ n, vs.length = n := ⟨_, rfl⟩
  obtain ⟨m, hm⟩ : ∃ m, arcs.length = m := ⟨_, rfl⟩
  obtain ⟨nc, hnc⟩ : ∃ m, comps.length = m := ⟨_, rfl⟩
  obtain ⟨ng, hng⟩ : ∃ m, gs.length = m := ⟨_, rfl⟩
  rw [hn, hm, hng] at hof
  rw [hn, hm, hnc]
  have HOF := Lib.hid hof
  have HI := Lib.hid (And.intro hc (And.intro hnc (And.intro hng hsort)))
  have hng4 : ng ≤ 400 := by omega
  clear hv ha hc hvl hal hR hz hsort hgl hn hm hnc hng hof
  go_enter Tryz.func23, Tryz.ntmps23
  go_wp2_with fail
  refine HOF.out.mono ?_
  clear HOF
  rintro e1 w1 ⟨A1, c1, rfl, hr1, hb1⟩
  have HB1 := Lib.hid hb1
  have HR1 := Lib.hid hr1
  clear hb1 hr1
  by_cases hz : code = 0
  · subst hz
    by_cases hdn : nc = ng
    · subst hdn
      have hd1 : ((nc : Int) != (nc : Int)) = false := by simp
      go_wp2_with fail
      clear hd1
      go_loopg [9, 11, 29] (nc + 1) (fun kq v9 v11 v29 w' => ∃ j : Nat, v29 = .int .i64 (j : Int) ∧ Hid (j + kq = nc + 1 ∧ j ≤ nc ∧ ∃ vals, Gr w1 w' v9 vals ((comps.take j).map sorted)))
      case atStart => exact ⟨0, rfl, Lib.hid ⟨by omega, by omega, [], Gr.start⟩⟩
      case round =>
        obtain ⟨j, rfl, hJ⟩ := hrel
        obtain ⟨hjk, hjn, vals, hG⟩ := hJ.out
        clear hJ
        by_cases hj : j < nc
        · obtain ⟨k1, rfl⟩ : ∃ k1, gk = k1 + 1 := ⟨gk - 1, by omega⟩
          obtain ⟨r, hx⟩ : ∃ x, comps[j]? = some x := ⟨_, List.getElem?_eq_getElem (by have := HI.out.2.1; omega)⟩
          obtain ⟨b, off, B, cr, hA, cx, hro, hrl⟩ := (HI.out.1.below (HB1.out.trans (hG.b.mono HB1.out.size))) j r hx
          subst hA
          have hvl : vals.length = j := by
            rw [hG.n, List.length_map, List.length_take]
            have := HI.out.2.1
            omega
          have ho9 := hG.o
          rw [hvl] at ho9
          obtain ⟨A9, c9, rfl⟩ := Lw.own_slice ho9
          clear ho9
          obtain ⟨nr, hnr⟩ : ∃ n, r.length = n := ⟨_, rfl⟩
          have hcl := cloneO_calls wr B cr r hro hrl
          rw [hnr] at hcl cx
          have HCL := Lib.hid hcl
          have HG0 := Lib.hid hG
          have HS := Lib.hid (And.intro hjk (And.intro hx (And.intro hvl (And.intro hnr hrl))))
          have j0 : (0 : Int) ≤ (j : Int) := by omega
          have j1 : (j : Int) < (nc : Int) := by omega
          clear hG hjk hx hvl hnr hrl hro hcl hj
          go_wp2_with fail
          refine HCL.out.mono ?_
          clear HCL cx
          rintro e2 w2 ⟨v8, rfl, ho8, hb2⟩
          have hl8 : wr.heap.size ≤ w2.heap.size := hb2.size
          have hG2 := HG0.out.below hb2
          have HQ := Lib.hid (fun k hk => (ho8.lt k hk).1)
          have ho8' := own_base ho8 (HG0.out.b.size)
          have hso := sortB_calls w2 w1.heap.size v8 r (by rw [HS.out.2.2.2.1]; exact ho8') HS.out.2.2.2.2
          rw [HS.out.2.2.2.1] at hso
          have HSO := Lib.hid hso
          have HG2 := Lib.hid hG2
          clear hso hG2 ho8' ho8 hb2 hl8
          go_wp2_with fail
          refine HSO.out.mono ?_
          clear HSO
          rintro e3 w3 ⟨rfl, ho3, hg3⟩
          have hG3 := HG2.out.beyond HG0.out hg3 HQ.out
          obtain ⟨A8, c8, rfl⟩ := Lw.own_slice ho3
          have ho9 := hG3.o
          rw [HS.out.2.2.1] at ho9
          have HG3 := Lib.hid (And.intro hG3 ho9)
          have HPU := Lib.hid (fun (v4 : Value) (w4 : World) (ho : w4.ownsRow w1.heap.size 22 1 v4 (j + 1) (vals ++ [.slice A8 nr c8])) (hg : (w3.alloc (.cells #[.slice A8 nr c8] 22)).grownBy w4 (Value.slice A9 j c9).ownBlock) => show ∃ vals, Gr w1 w4 v4 vals ((comps.take (j + 1)).map sorted) from by
            have ha := hG3.below ((Below.refl _ _).alloc (Nat.le_refl _) (.cells #[.slice A8 nr c8] 22))
            have hx := own_below ho3 ((Below.refl _ _).alloc (Nat.le_refl _) (.cells #[.slice A8 nr c8] 22))
            have := ha.push (l := sorted r) (by rw [sorted_length, HS.out.2.2.2.1]; exact hx) hg (by rw [HS.out.2.2.1]; exact ho)
            rw [List.take_add_one, HS.out.2.1, List.map_append]
            exact ⟨_, this⟩)
          clear HQ HG2 HG0 hG3 ho9 ho3 hg3
          have HJ := Lib.hid (show j + 1 + k1 = nc + 1 ∧ j + 1 ≤ nc from ⟨by have := HS.out.1; omega, by omega⟩)
          go_wp2_with ((at_builtin; (refine wpList_append_any rfl (.tmp 37) (.tmp 39) 40 rfl w1.heap.size 22 i3 (.slice none 0 0) 1 24 Tryz.underlying40 hi3 hz3 hs3 hy3 rfl (by omega) _ _ _ rfl (HG3.out.2.alloc (.cells #[.slice A8 nr c8] 22)) _ rfl 1 [.slice A8 nr c8] (RdV.lit w3 #[.slice A8 nr c8] 22 1 1 1 rfl (by simp [Value.oneCell'])) (by unfold maxLen; omega) (by omega) (by have := HG3.out.1.b.size; simp; omega) ?_; intro v4 w4 ho hg hn; have HG4 := Lib.hid (HPU.out v4 w4 ho hg); clear ho hg hn)))
          go_roundg k1
          case measure => omega
          case rel => exact ⟨j + 1, by go_num, Lib.hid ⟨HJ.out.1, HJ.out.2, HG4.out⟩⟩
        · obtain rfl : j = nc := by omega
          rw [List.take_of_length_le (by have := HI.out.2.1; omega)] at hG
          have jn : ¬ ((j : Int) < (j : Int)) := by omega
          have hlen : (comps.map sorted).length = j := by rw [List.length_map]; exact HI.out.2.1
          obtain ⟨A9, c9, rfl, hso⟩ := sortGr_calls hG (fun l hl => by
            obtain ⟨r, hr, rfl⟩ := List.mem_map.1 hl
            obtain ⟨i, hi, rfl⟩ := List.getElem_of_mem hr
            obtain ⟨_, _, _, _, _, _, _, h⟩ := HI.out.1 i _ (List.getElem?_eq_getElem hi)
            rw [sorted_length]
            exact h) (by omega)
          rw [hlen] at hso ⊢
          have HSO := Lib.hid hso
          clear hG hjk hjn hj hso hlen
          go_wp2_with fail
          refine HSO.out.mono ?_
          clear HSO
          rintro e5 w5 ⟨rfl, L, hp, hpw, hrd, hb5⟩
          have hll : L.length = j := by rw [hp.length_eq, List.length_map]; exact HI.out.2.1
          have heq := equalfunc_calls w5 A9 A1 c9 c1 L gs hrd (HR1.out.below hb5) (by omega) (fun l hl => by
            obtain ⟨r, hr, rfl⟩ := List.mem_map.1 (hp.mem_iff.1 hl)
            obtain ⟨i, hi, rfl⟩ := List.getElem_of_mem hr
            obtain ⟨_, _, _, _, _, _, _, h⟩ := HI.out.1 i _ (List.getElem?_eq_getElem hi)
            rw [sorted_length]
            omega)
          rw [hll, HI.out.2.2.1] at heq
          obtain ⟨q, hq⟩ : ∃ q, decide (L = gs) = q := ⟨_, rfl⟩
          rw [hq] at heq
          have HEQ := Lib.hid heq
          have HZ := Lib.hid (show (q = true ↔ PartsOk 0 gs comps) ∧ Below w.heap.size w w5 from ⟨by
            rw [← hq, decide_eq_true_eq]
            constructor
            · intro e
              subst e
              exact ⟨rfl, HI.out.2.1.trans HI.out.2.2.1.symm, hp.symm⟩
            · intro h
              exact sorted_one L gs (hp.trans h.2.2) hpw HI.out.2.2.2, HB1.out.trans (hb5.mono HB1.out.size)⟩)
          clear hp hpw hrd hb5 hll heq hq
          go_wp2_with fail
          refine HEQ.out.mono ?_
          clear HEQ
          rintro e6 w6 ⟨rfl, hb6⟩
          have HB6 := Lib.hid (HZ.out.2.trans (hb6.mono HZ.out.2.size))
          clear hb6
          go_wp2
          go_ret
          exact ⟨q, rfl, HZ.out.1, HB6.out⟩
    · have hd1 : ((nc : Int) != (ng : Int)) = true := by simpa using (show ¬ ((nc : Int) = (ng : Int)) by omega)
      have HZ := Lib.hid (show ¬ PartsOk 0 gs comps from fun h => hdn (HI.out.2.1.symm.trans (h.2.1.trans HI.out.2.2.1)))
      clear hdn
      go_wp2
      go_ret
      exact ⟨false, rfl, by simp [HZ.out], HB1.out⟩
  · have hz1 : ((code : Int) != 0) = true := by simpa using (show ¬ ((code : Int) = 0) by omega)
    have HZ := Lib.hid (show ¬ PartsOk code gs comps from fun h => hz h.1)
    clear hz
    go_wp2
    go_ret
    exact ⟨false, rfl, by simp [HZ.out], HB1.out⟩
end Go.Proofs.YtgihncjllelonaaGreat.Ce

/- cert: in a label's spans. -/
namespace Go.Proofs.YtgihncjllelonaaGreat.Ce
open Go Go.RowKit Go.MapKept Go.Proofs.YtgihncjllelonaaGreat.Mem Go.Proofs.YtgihncjllelonaaGreat.Sl Go.Proofs.YtgihncjllelonaaGreat.Lw Go.Proofs.YtgihncjllelonaaGreat.Om Go.Proofs.YtgihncjllelonaaGreat.Tb Go.Proofs.YtgihncjllelonaaGreat.Scc Go.Proofs.YtgihncjllelonaaGreatW.PrintWords Go.Proofs.YtgihncjllelonaaGreatW.PrintLast
attribute [local go_sem ↓] Go.wp_at_zero Go.wp_at_succ
set_option linter.unusedSimpArgs false
set_option linter.unusedVariables false

def RdAO (w : World) (A : Option Addr) (l : List (Int × Int)) : Prop := ∀ (j : Nat) (u v : Int), l[j]? = some (u, v) → ∃ b off, A = some ⟨b, off, none⟩ ∧ w.cell? ⟨b, off + j * 2, none⟩ = some (.int .i64 u) ∧ w.cell? ⟨b, off + j * 2 + 1, none⟩ = some (.int .i64 v)
theorem RdAO.below {w w' : World} {A : Option Addr} {l : List (Int × Int)} (h : RdAO w A l) (hb : Below w.heap.size w w') : RdAO w' A l := fun j u v hx => by
  obtain ⟨b, off, h1, h2, h3⟩ := h j u v hx
  exact ⟨b, off, h1, cell_below hb h2, cell_below hb h3⟩
def inSp (post : Int) (r : Int × Int) : Bool := decide (r.1 ≤ post) && decide (post ≤ r.2)
set_option maxHeartbeats 4000000 in
set_option maxRecDepth 100000 in
theorem span_calls (w : World) (g : Nat) (lo hi post : Int) (hc : w.cell? ⟨g, 0, none⟩ = some (.int .i64 post)) : Calls Tryz.prog 78 #[.agg #[.int .i64 lo, .int .i64 hi], .pointer (some ⟨g, 0, none⟩)] w fun e w' => e = .returned (.bool (inSp post (lo, hi))) ∧ Below w.heap.size w w' := by
  have hB := Lib.hid ((Below.refl w.heap.size w).alloc (Nat.le_refl _) (.cells #[.int .i64 lo, .int .i64 hi] 76))
  have hc2 := cell_below hB.out hc
  unfold inSp
  dsimp only
  by_cases h1 : lo ≤ post
  · by_cases h2 : post ≤ hi
    · go_enter Tryz.func78, Tryz.ntmps78
      go_wp2
      go_ret
      exact ⟨by simp [h1, h2], hB.out⟩
    · go_enter Tryz.func78, Tryz.ntmps78
      go_wp2
      go_ret
      exact ⟨by simp [h1, h2], hB.out⟩
  · go_enter Tryz.func78, Tryz.ntmps78
    go_wp2
    go_ret
    exact ⟨by simp [h1]; omega, hB.out⟩
set_option maxHeartbeats 8000000 in
set_option maxRecDepth 100000 in
theorem index_calls (w : World) (A : Option Addr) (c g : Nat) (runs : List (Int × Int)) (post : Int) (hr : RdAO w A runs) (hc : w.cell? ⟨g, 0, none⟩ = some (.int .i64 post)) (hl : runs.length ≤ 9223372036854775807) : Calls Tryz.prog 121 #[.slice A runs.length c, .func (.func 78) #[] #[.pointer (some ⟨g, 0, none⟩)]] w fun e w' => ∃ r : Int, e = .returned (.int .i64 r) ∧ (decide (r ≥ 0)) = runs.any (inSp post) ∧ Below w.heap.size w w' := by
  obtain ⟨n, hn⟩ : ∃ n, runs.length = n := ⟨_, rfl⟩
  rw [hn] at hl ⊢
  have HX := Lib.hid (And.intro hr (And.intro hc hn))
  clear hr hc hn
  go_enter Tryz.func121, Tryz.ntmps121
  go_wp2_with fail
  go_loopg [8] (n + 1) (fun kq v8 w' => ∃ j : Nat, v8 = .int .i64 (j : Int) ∧ Hid (j + kq = n + 1 ∧ j ≤ n ∧ Below w.heap.size w w' ∧ (runs.take j).any (inSp post) = false))
  case atStart => exact ⟨0, rfl, Lib.hid ⟨by omega, by omega, Below.refl _ _, rfl⟩⟩
  case round =>
    obtain ⟨j, rfl, hJ⟩ := hrel
    obtain ⟨hjk, hjn, hb, hno⟩ := hJ.out
    clear hJ
    by_cases hj : j < n
    · obtain ⟨k1, rfl⟩ : ∃ k1, gk = k1 + 1 := ⟨gk - 1, by omega⟩
      obtain ⟨⟨lo, hi⟩, hx⟩ : ∃ x, runs[j]? = some x := ⟨_, List.getElem?_eq_getElem (by have := HX.out.2.2; omega)⟩
      obtain ⟨ge, oe, hge, x0, x1⟩ := (HX.out.1.below hb) j lo hi hx
      subst hge
      have j0 : (0 : Int) ≤ (j : Int) := by omega
      have j1 : (j : Int) < (n : Int) := by omega
      have j2 : j + 1 ≤ 9223372036854775807 := by omega
      obtain ⟨r, hr⟩ : ∃ r, inSp post (lo, hi) = r := ⟨_, rfl⟩
      have HC := Lib.hid (span_calls wr g lo hi post (cell_below hb HX.out.2.1))
      rw [hr] at HC
      have HS := Lib.hid (And.intro hjk (And.intro hno (And.intro hx (And.intro hr hb))))
      clear hjk hno hx hr hb hj
      go_wp2_with fail
      refine HC.out.mono ?_
      clear HC x0 x1
      rintro e1 w1 ⟨rfl, b1⟩
      have HB := Lib.hid (HS.out.2.2.2.2.trans (b1.mono HS.out.2.2.2.2.size))
      clear b1
      cases r with
      | true =>
        go_wp2
        go_ret
        refine ⟨_, rfl, ?_, HB.out⟩
        have h1 : runs.any (inSp post) = true := List.any_eq_true.2 ⟨_, List.mem_of_getElem? HS.out.2.2.1, HS.out.2.2.2.1⟩
        rw [h1]
        exact decide_eq_true (by omega)
      | false =>
        go_wp2
        go_roundg k1
        case measure => omega
        case rel => exact ⟨j + 1, by go_num, Lib.hid ⟨by have := HS.out.1; omega, by omega, HB.out, by rw [show runs.take (j + 1) = runs.take j ++ [(lo, hi)] from by rw [List.take_add_one, HS.out.2.2.1]; rfl, List.any_append, HS.out.2.1]; simp [HS.out.2.2.2.1]⟩⟩
    · obtain rfl : j = n := by omega
      have jn : ¬ ((j : Int) < (j : Int)) := by omega
      rw [List.take_of_length_le (by have := HX.out.2.2; omega)] at hno
      have HZ := Lib.hid (And.intro hno hb)
      clear hno hb hjk hjn hj
      go_wp2
      go_ret
      exact ⟨_, rfl, by rw [HZ.out.1]; rfl, HZ.out.2⟩
set_option maxHeartbeats 4000000 in
set_option maxRecDepth 100000 in
theorem contains_calls (w : World) (A : Option Addr) (c g : Nat) (runs : List (Int × Int)) (post : Int) (hr : RdAO w A runs) (hc : w.cell? ⟨g, 0, none⟩ = some (.int .i64 post)) (hl : runs.length ≤ 9223372036854775807) : Calls Tryz.prog 77 #[.slice A runs.length c, .func (.func 78) #[] #[.pointer (some ⟨g, 0, none⟩)]] w fun e w' => e = .returned (.bool (runs.any (inSp post))) ∧ Below w.heap.size w w' := by
  have HC := Lib.hid (index_calls w A c g runs post hr hc hl)
  obtain ⟨n, hn⟩ : ∃ n, runs.length = n := ⟨_, rfl⟩
  rw [hn] at HC ⊢
  clear hr hc hl hn
  go_enter Tryz.func77, Tryz.ntmps77
  go_wp2_with fail
  refine HC.out.mono ?_
  clear HC
  rintro e1 w1 ⟨r, rfl, hr, b1⟩
  have HB := Lib.hid (And.intro hr b1)
  clear hr b1
  go_wp2
  go_ret
  exact ⟨by rw [← HB.out.1]; rfl, HB.out.2⟩
end Go.Proofs.YtgihncjllelonaaGreat.Ce
