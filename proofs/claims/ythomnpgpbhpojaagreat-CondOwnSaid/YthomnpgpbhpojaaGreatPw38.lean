/- The reference's arcs between components: plain. -/
import Derived.Test.YthomnpgpbhpojaaGreatPw37
import Derived.Test.YthomnpgpbhpojaaGreatPw5
namespace Go.Proofs.YthomnpgpbhpojaaGreat.Cd
open Go Go.RowKit Go.Proofs.YthomnpgpbhpojaaGreat.Mem Go.Proofs.YthomnpgpbhpojaaGreat.Sl Go.Proofs.YthomnpgpbhpojaaGreat.Scc Go.Proofs.YthomnpgpbhpojaaGreat.Tj Go.Proofs.YthomnpgpbhpojaaGreat.Lw Go.Proofs.YthomnpgpbhpojaaGreat.Pt
set_option linter.unusedSimpArgs false
set_option linter.unusedVariables false

def hdL (ls : List (List Int)) (i : Nat) : Int := (ls.getD i []).headD 0
def thr (ls : List (List Int)) (es : List (Int × Int × Int)) (i j n : Nat) : Bool := (es.take n).any fun p => decide (compI ls p.2.1 = (i : Int)) && decide (compI ls p.2.2 = (j : Int))
def there (ls : List (List Int)) (es : List (Int × Int × Int)) (i j : Nat) : Bool := if i = j then false else thr ls es i j es.length
def rowA (ls : List (List Int)) (es : List (Int × Int × Int)) (i j : Nat) : List (Int × Int) := ((List.range j).filter (there ls es i)).map fun j => (hdL ls i, hdL ls j)
def refA (ls : List (List Int)) (es : List (Int × Int × Int)) (i : Nat) : List (Int × Int) := (List.range i).flatMap fun i => rowA ls es i ls.length
section
variable {ls : List (List Int)} {es : List (Int × Int × Int)} {i j n : Nat}
theorem thr_zero : thr ls es i j 0 = false := rfl
theorem thr_succ {e u v : Int} (h : es[n]? = some (e, u, v)) : thr ls es i j (n + 1) = (thr ls es i j n || (decide (compI ls u = (i : Int)) && decide (compI ls v = (j : Int)))) := by
  unfold thr
  rw [List.take_add_one, h, List.any_append]
  simp
theorem rowA_zero : rowA ls es i 0 = [] := rfl
theorem rowA_succ : rowA ls es i (j + 1) = rowA ls es i j ++ (if there ls es i j = true then [(hdL ls i, hdL ls j)] else []) := by
  unfold rowA
  rw [List.range_succ, List.filter_append, List.map_append]
  congr 1
  by_cases h : there ls es i j = true
  · rw [if_pos h, List.filter_cons, if_pos h]; rfl
  · rw [if_neg h, List.filter_cons, if_neg h]; rfl
theorem refA_succ : refA ls es (i + 1) = refA ls es i ++ rowA ls es i ls.length := by
  unfold refA
  rw [List.range_succ, List.flatMap_append]
  simp
theorem rowA_len : (rowA ls es i j).length ≤ j := by
  unfold rowA
  rw [List.length_map]
  have := List.length_filter_le (there ls es i) (List.range j)
  rw [List.length_range] at this
  exact this
theorem refA_len : (refA ls es i).length ≤ i * ls.length := by
  induction i with
  | zero => simp [refA]
  | succ i ih =>
    rw [refA_succ, List.length_append, Nat.succ_mul]
    have := rowA_len (ls := ls) (es := es) (i := i) (j := ls.length)
    omega
theorem mem_refA {x : Int × Int} : x ∈ refA ls es n ↔ ∃ i j, i < n ∧ j < ls.length ∧ there ls es i j = true ∧ x = (hdL ls i, hdL ls j) := by
  unfold refA rowA
  simp only [List.mem_flatMap, List.mem_range, List.mem_map, List.mem_filter]
  constructor
  · rintro ⟨i, hi, j, ⟨hj, ht⟩, rfl⟩
    exact ⟨i, j, hi, hj, ht, rfl⟩
  · rintro ⟨i, j, hi, hj, ht, rfl⟩
    exact ⟨i, hi, j, ⟨hj, ht⟩, rfl⟩
def Rise (ls : List (List Int)) : Prop := ∀ (i j : Nat) (a b : Int) (r s : List Int), i < j → ls[i]? = some (a :: r) → ls[j]? = some (b :: s) → a < b
theorem Rise.hd (h : Rise ls) (hne : ∀ l ∈ ls, l ≠ []) (hij : i < j) (hj : j < ls.length) : hdL ls i < hdL ls j := by
  obtain ⟨l, hl⟩ : ∃ l, ls[i]? = some l := ⟨_, List.getElem?_eq_getElem (by omega)⟩
  obtain ⟨l', hl'⟩ : ∃ l, ls[j]? = some l := ⟨_, List.getElem?_eq_getElem hj⟩
  obtain ⟨a, r, rfl⟩ := List.exists_cons_of_ne_nil (hne l (List.mem_of_getElem? hl))
  obtain ⟨b, s, rfl⟩ := List.exists_cons_of_ne_nil (hne l' (List.mem_of_getElem? hl'))
  unfold hdL
  rw [List.getD_eq_getElem?_getD, List.getD_eq_getElem?_getD, hl, hl']
  exact h i j a b r s hij hl hl'
theorem rowA_up (h : Rise ls) (hne : ∀ l ∈ ls, l ≠ []) (hj : j ≤ ls.length) : (rowA ls es i j).Pairwise alt := by
  unfold rowA
  rw [List.pairwise_map]
  refine List.Pairwise.imp_of_mem (fun {x y} hx hy hlt => ?_) (List.pairwise_lt_range.filter _)
  have hy := (List.mem_filter.1 hy).1
  rw [List.mem_range] at hy
  exact .inr ⟨rfl, h.hd hne hlt (by omega)⟩
theorem refA_up (h : Rise ls) (hne : ∀ l ∈ ls, l ≠ []) : ∀ n, n ≤ ls.length → (refA ls es n).Pairwise alt
  | 0, _ => by simp [refA]
  | n + 1, hn => by
    rw [refA_succ, List.pairwise_append]
    refine ⟨refA_up h hne n (by omega), rowA_up h hne (Nat.le_refl _), fun x hx y hy => ?_⟩
    obtain ⟨i, j, hi, _, _, rfl⟩ := mem_refA.1 hx
    unfold rowA at hy
    obtain ⟨j', _, rfl⟩ := List.mem_map.1 hy
    exact .inl (h.hd hne hi (by omega))
end
section
variable {arcs : Int → Option (Int × Int)} {cls : Int → Option Nat} {row : Nat → List Int} {vs : List Int} {es : List (Int × Int × Int)} {ls : List (List Int)}
theorem Sy.head_at (h : Sy arcs cls vs es) (hr : RowOk cls row) (hG : Grp vs (Ra arcs) ls) {x : Int} (hx : x ∈ vs) : ∃ i : Nat, i < ls.length ∧ compI ls x = (i : Int) ∧ headV cls row x = hdL ls i := by
  obtain ⟨b, hb⟩ := Option.ne_none_iff_exists'.1 ((h.cv x).2 hx)
  obtain ⟨i, l, hil, hc, _, ⟨r, hr2⟩, _⟩ := h.ask_some hr hG hb
  refine ⟨i, (List.getElem?_eq_some_iff.1 hil).1, hc, ?_⟩
  unfold headV hdL
  rw [hb, List.getD_eq_getElem?_getD, hil, hr2]
  rfl
theorem Sy.mem_ref (h : Sy arcs cls vs es) (hr : RowOk cls row) (hG : Grp vs (Ra arcs) ls) (hR : Rise ls) (x : Int × Int) : (∃ e a b, arcs e = some (a, b) ∧ x = (headV cls row a, headV cls row b) ∧ headV cls row a ≠ headV cls row b) ↔ x ∈ refA ls es ls.length := by
  rw [mem_refA]
  constructor
  · rintro ⟨e, a, b, he, rfl, hne⟩
    have hen := h.en e _ he
    obtain ⟨i, hi, hc, hh⟩ := h.head_at hr hG ((h.cv a).1 hen.1)
    obtain ⟨j, hj, hc', hh'⟩ := h.head_at hr hG ((h.cv b).1 hen.2)
    refine ⟨i, j, hi, hj, ?_, by rw [hh, hh']⟩
    have hij : i ≠ j := fun e => hne (by rw [hh, hh', e])
    unfold there thr
    rw [if_neg hij, List.take_length, List.any_eq_true]
    exact ⟨_, (h.ae e a b).1 he, by simp [hc, hc']⟩
  · rintro ⟨i, j, hi, hj, ht, rfl⟩
    unfold there thr at ht
    split at ht
    · cases ht
    · rename_i hij
      rw [List.take_length, List.any_eq_true] at ht
      obtain ⟨⟨e, a, b⟩, hp, hcc⟩ := ht
      simp only [Bool.and_eq_true, decide_eq_true_eq] at hcc
      have he := (h.ae e a b).2 hp
      have hen := h.en e _ he
      obtain ⟨i', hi', hc, hh⟩ := h.head_at hr hG ((h.cv a).1 hen.1)
      obtain ⟨j', hj', hc', hh'⟩ := h.head_at hr hG ((h.cv b).1 hen.2)
      obtain rfl : i' = i := by omega
      obtain rfl : j' = j := by omega
      refine ⟨e, a, b, he, by rw [hh, hh'], ?_⟩
      rw [hh, hh']
      rcases Nat.lt_or_ge i' j' with hlt | hlt
      · have := hR.hd hG.ne hlt hj
        omega
      · have := hR.hd hG.ne (show j' < i' by omega) hi
        omega
theorem Sy.arcs_ref (h : Sy arcs cls vs es) (hr : RowOk cls row) (hG : Grp vs (Ra arcs) ls) (hR : Rise ls) {l : List (Int × Int)} (hl : l.Pairwise alt) (hm : ∀ x, x ∈ l ↔ ∃ e a b, arcs e = some (a, b) ∧ x = (headV cls row a, headV cls row b) ∧ headV cls row a ≠ headV cls row b) : l = refA ls es ls.length :=
  alt_ext hl (refA_up hR hG.ne _ (Nat.le_refl _)) fun x => (hm x).trans (h.mem_ref hr hG hR x)
theorem Sy.ref_ref (h : Sy arcs cls vs es) (hr : RowOk cls row) (hG : Grp vs (Ra arcs) ls) (hR : Rise ls) {ls' : List (List Int)} (hG' : Grp vs (Ra arcs) ls') (hR' : Rise ls') : refA ls' es ls'.length = refA ls es ls.length :=
  h.arcs_ref hr hG hR (refA_up hR' hG'.ne _ (Nat.le_refl _)) fun x => (h.mem_ref hr hG' hR' x).symm
theorem Sy.heads_ref (h : Sy arcs cls vs es) (hr : RowOk cls row) (hG : Grp vs (Ra arcs) ls) (hR : Rise ls) {l : List Int} (hl : l.Pairwise (· < ·)) (hm : ∀ y, y ∈ l ↔ cls y ≠ none ∧ headV cls row y = y) : l = (List.range ls.length).map (hdL ls) := by
  refine up_ext hl ?_ fun y => ?_
  · rw [List.pairwise_map]
    refine List.Pairwise.imp_of_mem (fun {a b} ha hb hlt => ?_) List.pairwise_lt_range
    rw [List.mem_range] at hb
    exact hR.hd hG.ne hlt hb
  · rw [hm, List.mem_map]
    constructor
    · rintro ⟨h1, h2⟩
      obtain ⟨i, hi, _, hh⟩ := h.head_at hr hG ((h.cv y).1 h1)
      exact ⟨i, List.mem_range.2 hi, by rw [← hh, h2]⟩
    · rintro ⟨i, hi, rfl⟩
      rw [List.mem_range] at hi
      obtain ⟨l', hl'⟩ : ∃ l, ls[i]? = some l := ⟨_, List.getElem?_eq_getElem hi⟩
      have hlm := List.mem_of_getElem? hl'
      obtain ⟨a, r, rfl⟩ := List.exists_cons_of_ne_nil (hG.ne l' hlm)
      have hhd : hdL ls i = a := by unfold hdL; rw [List.getD_eq_getElem?_getD, hl']; rfl
      rw [hhd]
      have hav : a ∈ vs := (hG.al a).2 ⟨_, hlm, by simp⟩
      obtain ⟨i', hi', hc, hh⟩ := h.head_at hr hG hav
      obtain ⟨i2, l2, hl2, ha2, hc2⟩ := grp_comp hG hav
      have : i' = i2 := by omega
      subst this
      have := hG.dj i' i l2 _ a hl2 hl' ha2 (by simp)
      subst this
      exact ⟨(h.cv a).2 hav, by rw [hh, hhd]⟩
end
end Go.Proofs.YthomnpgpbhpojaaGreat.Cd

/- The reference's arcs between components: walked. -/
namespace Go.Proofs.YthomnpgpbhpojaaGreat.Cd
open Go Go.RowKit Go.MapKept Go.Proofs.YthomnpgpbhpojaaGreat.Mem Go.Proofs.YthomnpgpbhpojaaGreat.Sl Go.Proofs.YthomnpgpbhpojaaGreat.Scc Go.Proofs.YthomnpgpbhpojaaGreat.Tj Go.Proofs.YthomnpgpbhpojaaGreat.Lw Go.Proofs.YthomnpgpbhpojaaGreat.Pt Go.Proofs.YthomnpgpbhpojaaGreatW.PrintWords Go.Proofs.YthomnpgpbhpojaaGreatW.PrintLast
attribute [local go_sem ↓] Go.wp_at_zero Go.wp_at_succ
set_option linter.unusedSimpArgs false
set_option linter.unusedVariables false

theorem app_ {P : Program} {ops : Array Oper} {Q : Exit → Act → World → Prop} {w : World} {o : Oper} {N : Option Tmp} {a : Act} {K : Act → World → Prop} (hw : Region.wanted o (yielded ops a.tmps) = true) (hN : o.dst = N) (s x : Operand) (t : TypeId) (ho : o.op = .call { callee := .builtin .append, args := #[s, x], argTypes := #[t, t] })
    (base : Nat) (e : TypeId) (i : TypeInfo) (z : Value) (size bytes : Nat) (ht : P.underlying t = some (.slice e)) (hi : P.info? e = some i) (hz : i.zero = some z)
    (hsize : i.size = size) (hby : i.bytes = bytes) (hzs : z.cells.size = size) (hsz : 0 < size) (v : Value) (n : Nat) (xs : List Value) (hs : a.eval s = v) (hown : w.ownsRow base e size v n xs)
    (xv : Value) (hxv : a.eval x = xv) (m : Nat) (news : List Value) (hx : RdV w xv m size news) (h63 : n + m ≤ maxLen) (hbytes : (n + m) * bytes ≤ 140737488355328) (hbase : base ≤ w.heap.size)
    (h : ∀ v' w', w'.ownsRow base e size v' (n + m) (xs ++ news) → w.grownBy w' v.ownBlock → K (a.put N v') w') : if Region.wanted o (yielded ops a.tmps) = true then Oper.wp P o a w K Q else K (a.put N undef) w := by
  obtain ⟨v', w', hr, h2, h3, h4⟩ := run_append_any (P := P) w base t o.type e i z size bytes ht hi hz hsize hby hzs hsz v n xs hown xv m news hx h63 hbytes hbase
  refine value_ (w1 := w') (v := v') hw hN ?_ (h _ _ h2 h3)
  unfold execOp
  simp only [ho, resolve, invoke, builtin, Sem.run_bind, Sem.run_pure, Result.andThen_ok, List.map_toArray, List.map_cons, List.map_nil, hs, hxv, hr]
section
variable {w w' W W' : World} {gc : Nat} {lk : Int} {arcs : Int → Option (Int × Int)} {cls : Int → Option Nat} {row : Nat → List Int} {cb : Nat → Prop} {vs : List Int} {es : List (Int × Int × Int)} {G : Gp}
theorem Pre.of2 (h : Pre w gc lk arcs cls row cb G vs es) : ∃ ls : List (List Int), Grp vs (Ra arcs) ls ∧ Rise ls ∧ ∀ W, Below w.heap.size w W → Calls Tryz.prog 26 #[G.v] W fun e W' => ∃ A' c', e = .returned (.slice A' ls.length c') ∧ RdL W' A' ls ∧ Below W.heap.size W W' := by
  have hlv := h.lv
  have hle := h.le
  obtain ⟨comp, m, hc, _⟩ := (ofS_ok (l := vs) (sl := vs) (arcs := es.map (·.2)) rfl (h.s.up.imp fun h => Int.le_of_lt h) (by omega) (k := vs.length + (es.map (·.2)).length + 1) (by omega)).2.2 (nodup_of_up h.s.up) h.s.good
  have hG := grp_of h.s.up h.s.good hc
  rw [h.s.ra] at hG
  refine ⟨_, hG, ofL_rise hc h.s.up rfl hG, fun W hb => ?_⟩
  have hg := h.gr hb
  have hlen : (ofL comp vs m).length = m := by unfold ofL; simp
  have := ofR_calls (gw := G.gw) W G.A G.E G.c G.ce m vs (es.map (·.2)) comp (RdI.of_own hg.rv).1 (RdE.of_g (RdG.of_own hg.re)) h.s.up h.s.good hc (by omega) (by rw [List.length_map]; omega)
  rw [hg.nv, List.length_map, hg.ne] at this
  rw [hlen]
  exact this
end
def tb27_15.T15 : Bool × List (List Nat × List Nat) := (true, [([], []), ([], []), ([], []), ([1, 2], [1, 2]), ([3], [3]), ([4], [4]), ([5], [5]), ([], []), ([], []), ([7, 8], [7, 8]), ([9], [9]), ([10], [10]), ([11], [11]), ([6, 12], [6, 12]), ([13], [13]), ([0, 14], [0, 14]), ([15, 15, 0, 1, 2, 3, 4, 5, 6, 7, 8, 9, 10, 11, 12, 13, 14, 15], [0, 15])])
def tb27_15.B15 : List Nat := [0, 0, 0, 6, 14, 30, 62, 0, 0, 384, 896, 1920, 3968, 8190, 16382, 32767, 65535]
theorem tb27_15.tab15 : rtab .any (opsOf Tryz.f27 15) = tb27_15.T15 := by kernel_rfl
theorem tb27_15.bits15 : waitsOk tb27_15.T15.2 tb27_15.B15 = true := by kernel_rfl
set_option maxHeartbeats 8000000 in
set_option maxRecDepth 100000 in
theorem refArcs_calls {w : World} {gc : Nat} {lk : Int} {arcs : Int → Option (Int × Int)} {cls : Int → Option Nat} {row : Nat → List Int} {cb : Nat → Prop} {vs : List Int} {es : List (Int × Int × Int)} {G : Gp} (h : Pre w gc lk arcs cls row cb G vs es) :
    ∃ ls, Grp vs (Ra arcs) ls ∧ Rise ls ∧ Calls Tryz.prog 27 #[G.v] w fun e w' => ∃ u, e = .returned u ∧ w'.ownsRow w.heap.size 41 2 u (refA ls es ls.length).length (arcs2 (refA ls es ls.length)) ∧ Below w.heap.size w w' := by
  obtain ⟨i1, hi1, hz1, hs1, hy1⟩ := info_parts Lw.info_arc
  obtain ⟨ls, hG, hR, hO⟩ := h.of2
  refine ⟨ls, hG, hR, ?_⟩
  have hln : ls.length ≤ vs.length := hG.len
  have hlv := h.lv
  have hll : ∀ r ∈ ls, r.length ≤ 1000000 := fun r hr => by have := hG.row hr; omega
  have HG := Lib.hid (And.intro hG.ne (And.intro hll (RdG.of_own h.g.re)))
  have hm : es.length = G.m := h.g.ne
  have hle := h.le
  obtain ⟨L, hL⟩ : ∃ L, ls.length = L := ⟨_, rfl⟩
  simp only [hL] at hO hln ⊢
  have hL4 : L ≤ 400 := by omega
  have HO := Lib.hid hO
  have HL := Lib.hid hL
  clear h hO hG hR hln hlv hll hL
  obtain ⟨gA, gn, gcc, gE, gm, gce, ggw⟩ := G
  have hm : es.length = gm := hm
  unfold Gp.v gV at HO ⊢
  have HM := Lib.hid hm
  have hm9 : gm ≤ 900 := by omega
  clear hm hle
  go_enter Tryz.func27, Tryz.ntmps27
  go_wp2_with fail
  have hb1 : Below w.heap.size w (w.alloc (.cells #[.slice gA gn gcc, .slice gE gm gce, .int .i64 0, .int .i64 ggw] 28)) := (Below.refl _ _).alloc (Nat.le_refl _) _
  refine (HO.out _ hb1).mono ?_
  clear HO
  rintro e0 wb ⟨A, cA, rfl, hrl, hb2⟩
  have hat : At wb w.heap.size [.slice gA gn gcc, .slice gE gm gce, .int .i64 0, .int .i64 ggw] 28 := (At.made (w := w) (a := #[.slice gA gn gcc, .slice gE gm gce, .int .i64 0, .int .i64 ggw]) rfl rfl).below hb2 (by simp)
  obtain ⟨gB, hgB⟩ : ∃ gB, w.heap.size = gB := ⟨_, rfl⟩
  have hbw := hb1.trans (hb2.mono (by simp))
  rw [hgB] at hat
  have HB := Lib.hid (show At wb gB [.slice gA gn gcc, .slice gE gm gce, .int .i64 0, .int .i64 ggw] 28 ∧ RdL wb A ls ∧ Below gB w wb ∧ RdG wb gE es from ⟨hat, hrl, hgB ▸ hbw, HG.out.2.2.below hbw⟩)
  rw [hgB]
  clear hat hrl hb1 hb2 hbw
  go_wp2_with fail
  go_loopg [4, 5] (L + 1) (fun kq v4 v5 w' => ∃ i : Nat, v5 = .int .i64 (i : Int) ∧ Hid (i + kq = L + 1 ∧ i ≤ L ∧ w'.ownsRow wb.heap.size 41 2 v4 (refA ls es i).length (arcs2 (refA ls es i)) ∧ Below wb.heap.size wb w'))
  case atStart => exact ⟨0, rfl, Lib.hid ⟨by omega, by omega, World.ownsRow_nil _ _ _ _, Below.refl _ _⟩⟩
  case round =>
    obtain ⟨i, rfl, hI⟩ := hrel
    obtain ⟨hik, hiL, ho, hb⟩ := hI.out
    clear hI
    by_cases hi : i < L
    · obtain ⟨k1, rfl⟩ : ∃ k1, gk = k1 + 1 := ⟨gk - 1, by omega⟩
      have i0 : (0 : Int) ≤ (i : Int) := by omega
      have i1' : (i : Int) < (L : Int) := by omega
      have i2 : (L : Int) ≤ 400 := by omega
      have HOi := Lib.hid (And.intro ho hb)
      have HKi := Lib.hid (And.intro hik hiL)
      clear ho hb hik hiL
      go_wp2_with fail
      go_loopg [4, 6] (L + 1) (fun kq v4 v6 w' => ∃ j : Nat, v6 = .int .i64 (j : Int) ∧ Hid (j + kq = L + 1 ∧ j ≤ L ∧ w'.ownsRow wb.heap.size 41 2 v4 (refA ls es i ++ rowA ls es i j).length (arcs2 (refA ls es i ++ rowA ls es i j)) ∧ Below wb.heap.size wb w'))
      case atStart => exact ⟨0, rfl, Lib.hid ⟨by omega, by omega, by rw [rowA_zero, List.append_nil]; exact HOi.out.1, HOi.out.2⟩⟩
      case round =>
        obtain ⟨j, rfl, hI⟩ := hrel
        obtain ⟨hjk, hjL, ho, hb⟩ := hI.out
        clear hI HOi
        by_cases hj : j < L
        · obtain ⟨k2, rfl⟩ : ∃ k2, gk = k2 + 1 := ⟨gk - 1, by omega⟩
          have j0 : (0 : Int) ≤ (j : Int) := by omega
          have j1' : (j : Int) < (L : Int) := by omega
          have HO := Lib.hid (And.intro ho hb)
          have HKj := Lib.hid (And.intro hjk hjL)
          clear ho hb hjk hjL
          by_cases hij : i = j
          · have HNX := Lib.hid (show j + 1 + k2 = L + 1 ∧ j + 1 ≤ L ∧ wr.ownsRow wb.heap.size 41 2 u4 (refA ls es i ++ rowA ls es i (j + 1)).length (arcs2 (refA ls es i ++ rowA ls es i (j + 1))) ∧ Below wb.heap.size wb wr from by
              have hr : rowA ls es i (j + 1) = rowA ls es i j := by
                rw [rowA_succ, if_neg (by unfold there; rw [if_pos hij]; simp), List.append_nil]
              rw [hr]
              exact ⟨by have := HKj.out.1; omega, by omega, HO.out.1, HO.out.2⟩)
            have q1 := (HB.out.1.below HO.out.2 HB.out.1.lt).cell 1 rfl
            clear HO HKj
            subst hij
            go_wp2_with fail
            go_loopg [7, 8] 1 (fun kq v7 v8 w' => v7 = .bool false ∧ v8 = .int .i64 0 ∧ w' = wr ∧ kq = 1)
            case atStart => exact ⟨rfl, rfl, rfl, rfl⟩
            case round =>
              obtain ⟨rfl, rfl, rfl, rfl⟩ := hrel
              by_cases hg0 : gm = 0
              · have g0 : ¬ ((0 : Int) < (gm : Int)) := by omega
                clear hg0
                go_wp2
                go_roundg k2
                case measure => omega
                case rel => exact ⟨i + 1, by go_num, HNX⟩
              · have g0 : (0 : Int) < (gm : Int) := by omega
                clear hg0
                go_wp2
                go_roundg k2
                case measure => omega
                case rel => exact ⟨i + 1, by go_num, HNX⟩
          · have q1 := (HB.out.1.below HO.out.2 HB.out.1.lt).cell 1 rfl
            have hijz : ¬ ((i : Int) = (j : Int)) := by omega
            have HIJ := Lib.hid hij
            clear hij
            go_wp2_with fail
            go_loopg [7, 8] (gm + 1) (fun kq v7 v8 w' => ∃ k : Nat, v8 = .int .i64 (k : Int) ∧ v7 = .bool (thr ls es i j k) ∧ w' = wr ∧ Hid (k + kq = gm + 1 ∧ k ≤ gm))
            case atStart => exact ⟨0, rfl, by rw [thr_zero], rfl, Lib.hid ⟨by omega, by omega⟩⟩
            case round =>
              obtain ⟨k, rfl, rfl, rfl, hI⟩ := hrel
              obtain ⟨hkk, hkg⟩ := hI.out
              clear hI
              have k0 : (0 : Int) ≤ (k : Int) := by omega
              by_cases hk : k < gm
              · obtain ⟨k3, rfl⟩ : ∃ k3, gk = k3 + 1 := ⟨gk - 1, by omega⟩
                have k1' : (k : Int) < (gm : Int) := by omega
                have k2' : (gm : Int) ≤ 900 := by omega
                obtain ⟨⟨e, u, v⟩, hx⟩ : ∃ x, es[k]? = some x := ⟨_, List.getElem?_eq_getElem (by rw [HM.out]; exact hk)⟩
                obtain ⟨g5, hg5, _, cu, cv⟩ := (HB.out.2.2.2.below HO.out.2) k e u v hx
                subst hg5
                have hsc := thr_succ (ls := ls) (i := i) (j := j) hx
                have hcu := comp_calls wr A cA ls u (HB.out.2.1.below HO.out.2) (by rw [HL.out]; omega) HG.out.2.1
                have hcv := comp_calls wr A cA ls v (HB.out.2.1.below HO.out.2) (by rw [HL.out]; omega) HG.out.2.1
                rw [HL.out] at hcu hcv
                obtain ⟨iu, hiu⟩ : ∃ x, compI ls u = x := ⟨_, rfl⟩
                obtain ⟨iv, hiv⟩ : ∃ x, compI ls v = x := ⟨_, rfl⟩
                rw [hiu] at hcu hsc
                rw [hiv] at hcv hsc
                have HK := Lib.hid (And.intro hkk hsc)
                have HCU := Lib.hid hcu
                have HCV := Lib.hid hcv
                obtain ⟨bT, hbT⟩ : ∃ b, thr ls es i j k = b := ⟨_, rfl⟩
                rw [hbT] at HK ⊢
                clear hkk hsc hx hcu hcv hiu hiv hbT hkg hk
                cases bT with
                | true =>
                  have hT : thr ls es i j (k + 1) = true := by rw [HK.out.2]; rfl
                  have HT := Lib.hid hT
                  clear hT cu cv
                  go_wp2
                  go_roundg k3
                  case measure => omega
                  case rel => exact ⟨k + 1, by go_num, by rw [HT.out], rfl, Lib.hid ⟨by have := HK.out.1; omega, by omega⟩⟩
                | false =>
                  by_cases h1 : iu = (i : Int)
                  · rw [h1] at HCU
                    by_cases h2 : iv = (j : Int)
                    · rw [h2] at HCV
                      have hT : thr ls es i j (k + 1) = true := by rw [HK.out.2, h1, h2]; simp
                      have HT := Lib.hid hT
                      clear hT h1 h2
                      go_wp2_with fail
                      refine HCU.out.mono ?_
                      rintro e1 w4 ⟨rfl, rfl⟩
                      go_wp2_with fail
                      refine HCV.out.mono ?_
                      rintro e2 w5 ⟨rfl, rfl⟩
                      go_wp2
                      go_roundg k3
                      case measure => omega
                      case rel => exact ⟨k + 1, by go_num, by rw [HT.out], rfl, Lib.hid ⟨by have := HK.out.1; omega, by omega⟩⟩
                    · have hT : thr ls es i j (k + 1) = false := by rw [HK.out.2, decide_eq_false h2]; simp
                      have HT := Lib.hid hT
                      clear hT h1
                      go_wp2_with fail
                      refine HCU.out.mono ?_
                      rintro e1 w4 ⟨rfl, rfl⟩
                      go_wp2_with fail
                      refine HCV.out.mono ?_
                      rintro e2 w5 ⟨rfl, rfl⟩
                      go_wp2
                      go_roundg k3
                      case measure => omega
                      case rel => exact ⟨k + 1, by go_num, by rw [HT.out]; simpa using h2, rfl, Lib.hid ⟨by have := HK.out.1; omega, by omega⟩⟩
                  · have hT : thr ls es i j (k + 1) = false := by rw [HK.out.2, decide_eq_false h1]; simp
                    have HT := Lib.hid hT
                    clear hT
                    go_wp2_with fail
                    refine HCU.out.mono ?_
                    rintro e1 w4 ⟨rfl, rfl⟩
                    go_wp2
                    go_roundg k3
                    case measure => omega
                    case rel => exact ⟨k + 1, by go_num, by rw [HT.out], rfl, Lib.hid ⟨by have := HK.out.1; omega, by omega⟩⟩
              · obtain rfl : k = gm := by omega
                have kn : ¬ ((k : Int) < (k : Int)) := by omega
                have hth : there ls es i j = thr ls es i j k := by unfold there; rw [if_neg HIJ.out, HM.out]
                obtain ⟨bT, hbT⟩ : ∃ b, thr ls es i j k = b := ⟨_, rfl⟩
                rw [hbT] at hth ⊢
                have hrs := rowA_succ (ls := ls) (es := es) (i := i) (j := j)
                rw [hth] at hrs
                clear hkk hkg hbT hth
                cases bT with
                | false =>
                  have HNX := Lib.hid (show j + 1 + k2 = L + 1 ∧ j + 1 ≤ L ∧ wr.ownsRow wb.heap.size 41 2 u4 (refA ls es i ++ rowA ls es i (j + 1)).length (arcs2 (refA ls es i ++ rowA ls es i (j + 1))) ∧ Below wb.heap.size wb wr from by
                    rw [hrs, if_neg (by simp), List.append_nil]
                    exact ⟨by have := HKj.out.1; omega, by omega, HO.out.1, HO.out.2⟩)
                  clear HO HKj hrs
                  go_wp2
                  go_roundg k2
                  case measure => omega
                  case rel => exact ⟨j + 1, by go_num, HNX⟩
                | true =>
                  rw [if_pos rfl] at hrs
                  have hrlb := HB.out.2.1.below HO.out.2
                  obtain ⟨li, hli⟩ : ∃ l, ls[i]? = some l := ⟨_, List.getElem?_eq_getElem (by rw [HL.out]; exact hi)⟩
                  obtain ⟨lj, hlj⟩ : ∃ l, ls[j]? = some l := ⟨_, List.getElem?_eq_getElem (by rw [HL.out]; exact hj)⟩
                  obtain ⟨xi, ri, rfl⟩ := List.exists_cons_of_ne_nil (HG.out.1 li (List.mem_of_getElem? hli))
                  obtain ⟨xj, rj, rfl⟩ := List.exists_cons_of_ne_nil (HG.out.1 lj (List.mem_of_getElem? hlj))
                  have hdi : hdL ls i = xi := by unfold hdL; rw [List.getD_eq_getElem?_getD, hli]; rfl
                  have hdj : hdL ls j = xj := by unfold hdL; rw [List.getD_eq_getElem?_getD, hlj]; rfl
                  rw [hdi, hdj] at hrs
                  obtain ⟨ba, Bi, ci, hAa, p0, rdi⟩ := hrlb i _ hli
                  obtain ⟨ba', Bj, cj, hAb, p2, rdj⟩ := hrlb j _ hlj
                  obtain ⟨bi, rfl, p1⟩ := rdi 0 xi rfl
                  obtain ⟨bj, rfl, p3⟩ := rdj 0 xj rfl
                  subst hAa
                  cases hAb
                  obtain ⟨ni, hni⟩ : ∃ n, (xi :: ri).length = n := ⟨_, rfl⟩
                  obtain ⟨nj, hnj⟩ : ∃ n, (xj :: rj).length = n := ⟨_, rfl⟩
                  rw [hni] at p0
                  rw [hnj] at p2
                  have npi : 0 < ni := by rw [← hni]; simp
                  have npj : 0 < nj := by rw [← hnj]; simp
                  obtain ⟨Lr, hLr⟩ : ∃ l, refA ls es i ++ rowA ls es i j = l := ⟨_, rfl⟩
                  have hnl : Lr.length ≤ 160400 := by
                    rw [← hLr, List.length_append]
                    have e1 := refA_len (ls := ls) (es := es) (i := i)
                    have e2 := rowA_len (ls := ls) (es := es) (i := i) (j := j)
                    have e3 : i * ls.length ≤ 400 * 400 := Nat.mul_le_mul (by omega) (by rw [HL.out]; exact hL4)
                    omega
                  rw [hLr] at HO
                  have HNX := Lib.hid (show refA ls es i ++ rowA ls es i (j + 1) = Lr ++ [(xi, xj)] from by rw [hrs, ← List.append_assoc, hLr])
                  clear hrlb hli hlj hdi hdj hrs rdi rdj hni hnj hLr
                  go_upto_region 15 with (fail)
                  clear q1
                  obtain ⟨wd, hwd⟩ : ∃ wd, wr.drew = wd := ⟨_, rfl⟩
                  have s0 : wd.cell? ⟨ba, i, none⟩ = _ := hwd ▸ (show wr.drew.cell? ⟨ba, i, none⟩ = _ from p0)
                  have s1 : wd.cell? ⟨bi, 0, none⟩ = _ := hwd ▸ (show wr.drew.cell? ⟨bi, 0, none⟩ = _ from p1)
                  have s2 : wd.cell? ⟨ba, j, none⟩ = _ := hwd ▸ (show wr.drew.cell? ⟨ba, j, none⟩ = _ from p2)
                  have s3 : wd.cell? ⟨bj, 0, none⟩ = _ := hwd ▸ (show wr.drew.cell? ⟨bj, 0, none⟩ = _ from p3)
                  have HO := Lib.hid (show wd.ownsRow wb.heap.size 41 2 u4 Lr.length (arcs2 Lr) ∧ Below wb.heap.size wb wd from hwd ▸ ⟨HO.out.1.drew, HO.out.2.drew⟩)
                  clear p0 p1 p2 p3
                  refine start_ (n := 17) (S := fun w' => w'.cell? ⟨ba, i, none⟩ = some (.slice (some ⟨bi, 0, none⟩) ni ci) ∧ w'.cell? ⟨bi, 0, none⟩ = some (.int .i64 xi) ∧ w'.cell? ⟨ba, j, none⟩ = some (.slice (some ⟨bj, 0, none⟩) nj cj) ∧ w'.cell? ⟨bj, 0, none⟩ = some (.int .i64 xj)) (ds := [14, 15]) (bA 17 0) (by kernel_rfl) rfl rfl ⟨(by rw [hwd]; exact s0), (by rw [hwd]; exact s1), (by rw [hwd]; exact s2), (by rw [hwd]; exact s3)⟩ (fun hHeld => ?_)
                  rw [hwd] at hHeld ⊢
                  refine with_tabW tb27_15.tab15 tb27_15.bits15 (fun HT_ HW_ => ?_)
                  refine pw_ 0 61 (bA 17 1) HT_.out ?_
                  refine pw_ 1 62 (bA 17 3) HT_.out ?_
                  refine pw_ 2 63 (bA 17 7) HT_.out ?_
                  refine pw_ 3 64 (bA 17 15) HT_.out ?_
                  refine pw_ 7 68 (bA 17 143) HT_.out ?_
                  refine pw_ 8 69 (bA 17 399) HT_.out ?_
                  refine pw_ 9 70 (bA 17 911) HT_.out ?_
                  refine tw_ 4 65 (bA 17 927) HT_.out HW_.out hHeld (hv := by rintro w' ⟨s0, s1, s2, s3⟩; go_simp; with_reducible rfl) (h := ?_)
                  refine pw_ 5 66 (bA 17 959) HT_.out ?_
                  refine tw_ 6 67 (bA 17 1023) HT_.out HW_.out hHeld (hv := by rintro w' ⟨s0, s1, s2, s3⟩; go_simp; with_reducible rfl) (h := ?_)
                  refine tw_ 10 71 (bA 17 2047) HT_.out HW_.out hHeld (hv := by rintro w' ⟨s0, s1, s2, s3⟩; go_simp; with_reducible rfl) (h := ?_)
                  refine pw_ 11 72 (bA 17 4095) HT_.out ?_
                  refine tw_ 12 73 (bA 17 8191) HT_.out HW_.out hHeld (hv := by rintro w' ⟨s0, s1, s2, s3⟩; go_simp; with_reducible rfl) (h := ?_)
                  refine pw_ 13 74 (bA 17 16383) HT_.out ?_
                  refine last_ (i := 14) (N := some 75) (bA 17 32767) rfl rfl (one_of HT_.out (by kernel_rfl)) (by decide) (fun K hK => ?_)
                  refine value_ (w1 := ?_) (v := ?_) (by rfl) rfl ?_ ?_
                  rotate_left 2
                  · go_simp
                    constructor
                    · rfl
                    · rfl
                  refine hK.out _ _ ?_; clear hK K
                  refine norm_ (a' := ?_) ?_ ?_
                  rotate_left
                  · show Act.put _ (some 75) _ = _
                    simp only [Act.put, pA, pB, pC, pD, pE]; rfl
                  refine last_ (i := 15) (N := some 76) (bA 17 65535) rfl rfl (one_of HT_.out (by kernel_rfl)) (by decide) (fun K hK => ?_)
                  refine app_ (by rfl) rfl (.tmp 61) (.tmp 75) 38 (by rfl) wb.heap.size 41 i1 (.agg #[.int .i64 0, .int .i64 0]) 2 16 Tryz.underlying38 hi1 hz1 hs1 hy1 rfl (by omega) _ _ _ (by rfl) (HO.out.1.alloc (.cells #[.int .i64 xi, .int .i64 xj] 41)) _ (by rfl) 1 [.int .i64 xi, .int .i64 xj] (RdV.lit _ #[.int .i64 xi, .int .i64 xj] 41 1 2 1 rfl (by simp [Value.oneCell'])) (by unfold maxLen; omega) (by omega) (by have := HO.out.2.size; simp; omega) ?_
                  intro va wa hoa hga
                  have hba := (HO.out.2.alloc HO.out.2.size (.cells #[.int .i64 xi, .int .i64 xj] 41)).grown hga (by have := HO.out.2.size; simp; omega) (fun k hk => (HO.out.1.lt k hk).1)
                  have HOA := Lib.hid (And.intro hoa hba)
                  clear hoa hga hba; refine hK.out _ _ ?_; clear hK K
                  refine norm_ (a' := ?_) ?_ ?_
                  rotate_left
                  · show Act.put _ (some 76) _ = _
                    simp only [Act.put, pA, pB, pC, pD, pE]; rfl
                  refine pw_ 16 4 (bA 17 131071) HT_.out ?_
                  refine done_ (done_of HT_.out (by kernel_rfl)) ?_
                  clear hHeld HT_ HW_; clear s0 s1 s2 s3 hwd
                  go_wp2
                  go_roundg k2
                  case measure => omega
                  case rel => exact ⟨j + 1, by go_num, Lib.hid ⟨by have := HKj.out.1; omega, by omega, by rw [HNX.out, List.length_append, arcs2_append]; exact HOA.out.1, HOA.out.2⟩⟩
        · obtain rfl : j = L := by omega
          have HNX := Lib.hid (show i + 1 + k1 = j + 1 ∧ i + 1 ≤ j ∧ wr.ownsRow wb.heap.size 41 2 u4 (refA ls es (i + 1)).length (arcs2 (refA ls es (i + 1))) ∧ Below wb.heap.size wb wr from by
            rw [refA_succ, HL.out]
            exact ⟨by have := HKi.out.1; omega, by omega, ho, hb⟩)
          have jn : ¬ ((j : Int) < (j : Int)) := by omega
          clear ho hb hjk hjL hj HKi
          go_wp2
          go_roundg k1
          case measure => omega
          case rel => exact ⟨i + 1, by go_num, HNX⟩
    · obtain rfl : i = L := by omega
      have jn : ¬ ((i : Int) < (i : Int)) := by omega
      have HZ := Lib.hid (show wr.ownsRow gB 41 2 u4 (refA ls es i).length (arcs2 (refA ls es i)) ∧ Below gB w wr from by
        have hbw := HB.out.2.2.1
        rw [← hgB] at hbw ⊢
        exact ⟨own_mono ho hbw.size, hbw.trans (hb.mono hbw.size)⟩)
      clear ho hb hik hiL hi
      go_wp2
      go_ret
      exact ⟨_, rfl, HZ.out⟩
end Go.Proofs.YthomnpgpbhpojaaGreat.Cd
