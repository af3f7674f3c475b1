/- slices.Compact of arcs. -/
import Derived.Test.YthomnpgpbhpojaaPo35
import Derived.Laws.IdiomCopy
import Derived.Test.YthomnpgpbhpojaaPo5
import Derived.Shelf.SlSortCmp.WholeK
import Derived.Ground.SlsfProg
import Derived.Test.YthomnpgpbhpojaaProg
namespace Go.Proofs.Ythomnpgpbhpojaa.Cd
open Go Go.RowKit Go.Proofs.Ythomnpgpbhpojaa.Mem Go.Proofs.Ythomnpgpbhpojaa.Sl Go.Proofs.Ythomnpgpbhpojaa.Scc Go.Proofs.Ythomnpgpbhpojaa.Tj Go.Proofs.Ythomnpgpbhpojaa.Lw Go.Proofs.YthomnpgpbhpojaaW.PrintWords Go.Proofs.YthomnpgpbhpojaaW.PrintLast
attribute [local go_sem ↓] Go.wp_at_zero Go.wp_at_succ
set_option linter.unusedSimpArgs false
set_option linter.unusedVariables false

theorem snoc_ind {α : Type} {motive : List α → Prop} (nil : motive []) (snoc : ∀ (l : List α) (x : α), motive l → motive (l ++ [x])) (l : List α) : motive l := by
  have h : ∀ l : List α, motive l.reverse := fun l => by
    induction l with
    | nil => exact nil
    | cons x l ih => rw [List.reverse_cons]; exact snoc _ _ ih
  have := h l.reverse
  rwa [List.reverse_reverse] at this
def ddS (acc : List (Int × Int)) (x : Int × Int) : List (Int × Int) := if acc.getLast? = some x then acc else acc ++ [x]
def dd (l : List (Int × Int)) : List (Int × Int) := l.foldl ddS []
theorem dd_snoc (l : List (Int × Int)) (x : Int × Int) : dd (l ++ [x]) = ddS (dd l) x := by simp [dd]
theorem dd_last : ∀ (l : List (Int × Int)), (dd l).getLast? = l.getLast? := fun l => by
  induction l using snoc_ind with
  | nil => rfl
  | snoc l x ih =>
    rw [dd_snoc, ddS]
    split
    · rename_i h
      rw [h]; simp
    · simp
theorem dd_mem (l : List (Int × Int)) : ∀ x, x ∈ dd l ↔ x ∈ l := fun x => by
  induction l using snoc_ind with
  | nil => simp [dd]
  | snoc l y ih =>
    rw [dd_snoc, ddS]
    split
    · rename_i h
      rw [ih, List.mem_append, List.mem_singleton]
      exact ⟨.inl, fun hx => hx.elim id fun e => by rw [← ih, e]; exact List.mem_of_getLast? h⟩
    · rw [List.mem_append, List.mem_append, ih]
theorem dd_len (l : List (Int × Int)) : (dd l).length ≤ l.length := by
  induction l using snoc_ind with
  | nil => simp [dd]
  | snoc l y ih =>
    rw [dd_snoc, ddS, List.length_append, List.length_singleton]
    split
    · omega
    · rw [List.length_append, List.length_singleton]; omega
theorem take_snoc {l : List (Int × Int)} {j : Nat} {x : Int × Int} (h : l[j]? = some x) : l.take (j + 1) = l.take j ++ [x] := by
  rw [List.take_add_one, h]; rfl
theorem last_take {l : List (Int × Int)} {j : Nat} {x : Int × Int} (h : l[j]? = some x) : (l.take (j + 1)).getLast? = some x := by
  rw [take_snoc h]; simp
theorem dd_eq {l : List (Int × Int)} {j : Nat} {x : Int × Int} (h0 : l[j]? = some x) (h1 : l[j + 1]? = some x) : dd (l.take (j + 1 + 1)) = dd (l.take (j + 1)) := by
  rw [take_snoc h1, dd_snoc, ddS, if_pos (by rw [dd_last]; exact last_take h0)]
theorem dd_ne {l : List (Int × Int)} {j : Nat} {x y : Int × Int} (h0 : l[j]? = some x) (h1 : l[j + 1]? = some y) (hne : x ≠ y) : dd (l.take (j + 1 + 1)) = dd (l.take (j + 1)) ++ [y] := by
  rw [take_snoc h1, dd_snoc, ddS, if_neg (by rw [dd_last, last_take h0]; simpa using hne)]
theorem dd_up {R : Int × Int → Int × Int → Prop} (hT : ∀ x y z, R x y → R y z → R x z) : ∀ (l : List (Int × Int)), (l.Pairwise fun x y => R x y ∨ x = y) → (dd l).Pairwise R := fun l => by
  induction l using snoc_ind with
  | nil => simp [dd]
  | snoc l y ih =>
    intro h
    rw [List.pairwise_append] at h
    obtain ⟨h1, _, h2⟩ := h
    have ih := ih h1
    rw [dd_snoc, ddS]
    split
    · exact ih
    · rename_i hl
      rw [List.pairwise_append]
      refine ⟨ih, by simp, fun x hx z hz => ?_⟩
      simp only [List.mem_singleton] at hz
      subst hz
      rcases h2 x ((dd_mem l x).1 hx) z (by simp) with h3 | rfl
      · exact h3
      · -- x is the last one of all
        rw [dd_last] at hl
        obtain ⟨a, ha⟩ : ∃ a, l.getLast? = some a := by
          cases hg : l.getLast? with
          | none =>
            rw [List.getLast?_eq_none_iff] at hg
            subst hg
            simp [dd] at hx
          | some a => exact ⟨a, rfl⟩
        have hax : a ≠ x := fun e => hl (by rw [ha, e])
        have ham := List.mem_of_getLast? ha
        have hxa : R x a ∨ x = a := by
          obtain ⟨ys, rfl⟩ := List.getLast?_eq_some_iff.1 ha
          rcases List.mem_append.1 ((dd_mem _ x).1 hx) with hm | hm
          · rw [List.pairwise_append] at h1
            exact h1.2.2 x hm a (by simp)
          · simp only [List.mem_singleton] at hm
            exact .inr hm
        rcases hxa with h4 | h4
        · rcases h2 a ham x (by simp) with h5 | h5
          · exact hT _ _ _ h4 h5
          · exact absurd h5 hax
        · exact absurd h4.symm hax
end Go.Proofs.Ythomnpgpbhpojaa.Cd

/- slices.Compact of arcs, walked. -/
namespace Go.Proofs.Ythomnpgpbhpojaa.Cd
open Go Go.RowKit Go.Proofs.Ythomnpgpbhpojaa.Mem Go.Proofs.Ythomnpgpbhpojaa.Sl Go.Proofs.Ythomnpgpbhpojaa.Scc Go.Proofs.Ythomnpgpbhpojaa.Tj Go.Proofs.Ythomnpgpbhpojaa.Lw Go.Proofs.YthomnpgpbhpojaaW.PrintWords Go.Proofs.YthomnpgpbhpojaaW.PrintLast
attribute [local go_sem ↓] Go.wp_at_zero Go.wp_at_succ
set_option linter.unusedSimpArgs false
set_option linter.unusedVariables false

theorem arcs2_set (l : List (Int × Int)) (j : Nat) (x : Int × Int) : ((arcs2 l).set (j * 2) (.int .i64 x.1)).set (j * 2 + 1) (.int .i64 x.2) = arcs2 (l.set j x) := by
  induction l generalizing j with
  | nil => simp [arcs2]
  | cons p l ih =>
    cases j with
    | zero => simp [arcs2_cons]
    | succ j =>
      rw [arcs2_cons, show (j + 1) * 2 = j * 2 + 1 + 1 by omega, show j * 2 + 1 + 1 + 1 = (j * 2 + 1) + 1 + 1 by omega]
      simp only [List.set_cons_succ]
      rw [ih, ← arcs2_cons]
theorem own_set2 {W : World} {base g n c : Nat} {T : TypeId} {l : List (Int × Int)} (h : W.ownsRow base T 2 (.slice (some ⟨g, 0, none⟩) n c) n (arcs2 l)) (j : Nat) (x : Int × Int) :
    ((W.setCell ⟨g, j * 2, none⟩ (.int .i64 x.1)).setCell ⟨g, j * 2 + 1, none⟩ (.int .i64 x.2)).ownsRow base T 2 (.slice (some ⟨g, 0, none⟩) n c) n (arcs2 (l.set j x)) := by
  have := ((h.stored (j * 2) (.int .i64 x.1)).1.stored (j * 2 + 1) (.int .i64 x.2)).1
  rwa [arcs2_set] at this
theorem own_tail {base g n c size : Nat} {T : TypeId} : ∀ (Z : List Value) (W : World) (o : Nat) (xs : List Value), W.ownsRow base T size (.slice (some ⟨g, 0, none⟩) n c) n xs → ∃ xs', (W.setCells g o Z).ownsRow base T size (.slice (some ⟨g, 0, none⟩) n c) n xs' ∧ xs'.take o = xs.take o ∧ Kpt (fun k => k = g) W (W.setCells g o Z)
  | [], W, o, xs, h => ⟨xs, h, rfl, Kpt.refl _ _⟩
  | z :: Z, W, o, xs, h => by
    obtain ⟨xs', h1, h2, h3⟩ := own_tail Z _ (o + 1) _ (h.stored o z).1
    refine ⟨xs', h1, ?_, ((Kpt.refl (fun k => k = g) W).set (fun _ => rfl) (q := ⟨g, o, none⟩) z).trans h3⟩
    have := congrArg (List.take o) h2
    rw [List.take_take, List.take_take, Nat.min_eq_left (Nat.le_succ o)] at this
    rw [this, List.take_set_of_le (Nat.le_refl _)]
theorem own_cut {W : World} {base g n c k size : Nat} {T : TypeId} {xs : List Value} (h : W.ownsRow base T size (.slice (some ⟨g, 0, none⟩) n c) n xs) (hk : k ≤ n) : W.ownsRow base T size (.slice (some ⟨g, 0, none⟩) k c) k (xs.take (k * size)) := by
  obtain ⟨h1, h2 | ⟨g', cap, cur, hv, hb, hh, hn, hm, hs, hx⟩⟩ := h
  · cases h2.1
  · cases hv
    have hle : k * size ≤ n * size := Nat.mul_le_mul_right _ hk
    refine ⟨by rw [List.length_take, h1]; omega, .inr ⟨g, c, cur, rfl, hb, hh, by omega, hm, hs, ?_⟩⟩
    rw [← hx, List.take_take, Nat.min_eq_left hle]
theorem zeroCells_mem (n : Nat) : ∀ v ∈ (Builtin.zeroCells #[.int .i64 0, .int .i64 0] n).toList, v = .int .i64 0 := fun v hv => by
  unfold Builtin.zeroCells at hv
  simp at hv
  obtain ⟨i, hi, rfl⟩ := hv
  rcases Nat.mod_two_eq_zero_or_one i with h | h <;> simp [h]
theorem zeroCells_len (n : Nat) : (Builtin.zeroCells #[.int .i64 0, .int .i64 0] n).toList.length = n * 2 := by
  unfold Builtin.zeroCells
  simp
theorem run_clearA {W : World} {base g n c : Nat} {xs : List Value} (h : W.ownsRow base 69 2 (.slice (some ⟨g, 0, none⟩) n c) n xs) (k m c2 : Nat) (ty : TypeId) (hm : 0 < m) (hk : k + m ≤ n) :
    (Builtin.clear_ #[50] ty #[.slice (some ⟨g, k * 2, none⟩) m c2]).run Try.prog W = .ok (.tuple #[]) (W.setCells g (k * 2) (Builtin.zeroCells #[.int .i64 0, .int .i64 0] m).toList) := by
  have hv : ∀ w, (zeroValue 69).run Try.prog w = .ok (.agg #[.int .i64 0, .int .i64 0]) w := fun w => by kernel_rfl
  have hc : (Value.agg #[.int .i64 0, .int .i64 0]).cells = #[.int .i64 0, .int .i64 0] := by kernel_rfl
  have hst := run_storeCells_cells (P := Try.prog) g (k * 2) (Builtin.zeroCells #[.int .i64 0, .int .i64 0] m).toList 0 W (fun j hj => by
      rw [zeroCells_len] at hj
      rw [Nat.add_zero, h.cellAt _ (by omega), List.getElem?_eq_getElem (by rw [h.1]; omega)]
      rfl) (fun j hj => h.frozenAt _) (fun v hv => by rw [zeroCells_mem m v hv]; rfl)
  simp only [Nat.add_zero] at hst
  obtain ⟨m', rfl⟩ : ∃ m', m = m' + 1 := ⟨m - 1, by omega⟩
  simp [Builtin.clear_, run_underlying Try.underlying50, hv, hc, hst]
end Go.Proofs.Ythomnpgpbhpojaa.Cd

/- slices.Compact of arcs: the walk. -/
namespace Go.Proofs.Ythomnpgpbhpojaa.Cd
open Go Go.RowKit Go.Proofs.Ythomnpgpbhpojaa.Mem Go.Proofs.Ythomnpgpbhpojaa.Sl Go.Proofs.Ythomnpgpbhpojaa.Scc Go.Proofs.Ythomnpgpbhpojaa.Tj Go.Proofs.Ythomnpgpbhpojaa.Lw Go.Proofs.YthomnpgpbhpojaaW.PrintWords Go.Proofs.YthomnpgpbhpojaaW.PrintLast
attribute [local go_sem ↓] Go.wp_at_zero Go.wp_at_succ
set_option linter.unusedSimpArgs false
set_option linter.unusedVariables false

def tb43_6.T6 : Bool × List (List Nat × List Nat) := (true, [([], []), ([], []), ([0, 1], [0, 1]), ([2], [2]), ([], []), ([], []), ([5], [5]), ([4, 6], [4, 6]), ([7], [7]), ([3, 8], [3, 8])])
def tb43_6.B6 : List Nat := [0, 0, 3, 7, 0, 0, 32, 112, 240, 511]
theorem tb43_6.tab6 : rtab .any (opsOf Try.f43 6) = tb43_6.T6 := by kernel_rfl
theorem tb43_6.bits6 : waitsOk tb43_6.T6.2 tb43_6.B6 = true := by kernel_rfl
def tb43_11.T11 : Bool × List (List Nat × List Nat) := (true, [([], []), ([], []), ([0, 1], [0, 1]), ([2], [2]), ([], []), ([], []), ([5], [5]), ([4, 6], [4, 6]), ([7], [7]), ([3, 8], [3, 8])])
def tb43_11.B11 : List Nat := [0, 0, 3, 7, 0, 0, 32, 112, 240, 511]
theorem tb43_11.tab11 : rtab .any (opsOf Try.f43 11) = tb43_11.T11 := by kernel_rfl
theorem tb43_11.bits11 : waitsOk tb43_11.T11.2 tb43_11.B11 = true := by kernel_rfl
structure Sq (w W : World) (base g n c : Nat) (l : List (Int × Int)) (k p : Nat) : Prop where
  ex : ∃ D : List (Int × Int), W.ownsRow base 69 2 (.slice (some ⟨g, 0, none⟩) n c) n (arcs2 D) ∧ D.take k = dd (l.take p) ∧ ∀ t, p ≤ t + 1 → D[t]? = l[t]?
  kk : k = (dd (l.take p)).length
  kp : k < p
  k0 : 0 < k
  kpt : Kpt (fun x => x = g) w W
set_option maxHeartbeats 8000000 in
set_option maxRecDepth 100000 in
theorem compactA_calls (w : World) (base g n c : Nat) (l : List (Int × Int)) (h : w.ownsRow base 69 2 (.slice (some ⟨g, 0, none⟩) n c) n (arcs2 l)) (hl : l.length = n) (hn : n ≤ 1000) :
    Calls Try.prog 43 #[.slice (some ⟨g, 0, none⟩) n c] w fun e w' => ∃ k, e = .returned (.slice (some ⟨g, 0, none⟩) k c) ∧ k = (dd l).length ∧ w'.ownsRow base 69 2 (.slice (some ⟨g, 0, none⟩) k c) k (arcs2 (dd l)) ∧ Kpt (fun x => x = g) w w' := by
  have hnc : n ≤ c := by
    rcases h.2 with ⟨h0, _⟩ | ⟨_, _, _, h0, _, _, hx, _⟩
    · cases h0
    · cases h0; exact hx
  by_cases h2 : n < 2
  · have hdd : dd l = l := by
      match l, hl with
      | [], _ => rfl
      | [x], _ => rfl
      | x :: y :: r, h => simp at h; omega
    have HO := Lib.hid (show w.ownsRow base 69 2 (.slice (some ⟨g, 0, none⟩) n c) n (arcs2 (dd l)) from by rw [hdd]; exact h)
    have HL := Lib.hid (show n = (dd l).length from by rw [hdd, hl])
    have i2 : (n : Int) < 2 := by omega
    clear h hl hdd
    go_enter Try.func43, Try.ntmps43
    go_wp2
    go_ret
    exact ⟨n, rfl, HL.out, HO.out, Kpt.refl _ _⟩
  · have HO := Lib.hid (And.intro h hl)
    have i2 : ¬ ((n : Int) < 2) := by omega
    clear h hl
    go_enter Try.func43, Try.ntmps43
    go_wp2_with fail
    go_loopg [3] n (fun kq v3 w' => ∃ j : Nat, v3 = .int .i64 (j : Int) ∧ Hid (∃ i, j = i + 1 ∧ i + kq = n ∧ i + 1 ≤ n ∧ dd (l.take (i + 1)) = l.take (i + 1) ∧ ∃ q, w' = w.drewN q))
    case atStart => exact ⟨1, rfl, Lib.hid ⟨0, rfl, by omega, by omega, by
      obtain ⟨a, r, rfl⟩ := List.exists_cons_of_length_pos (show 0 < l.length by have := HO.out.2; omega)
      rfl, 0, rfl⟩⟩
    case round =>
      obtain ⟨j, rfl, hI⟩ := hrel
      obtain ⟨i, hj, hik, hin, hdd, q, rfl⟩ := hI.out
      clear hI
      by_cases hi : j < n
      · obtain ⟨k1, rfl⟩ : ∃ k1, gk = k1 + 1 := ⟨gk - 1, by omega⟩
        obtain ⟨⟨y1, y2⟩, hy⟩ : ∃ x, l[i]? = some x := ⟨_, List.getElem?_eq_getElem (by rw [HO.out.2]; omega)⟩
        obtain ⟨⟨x1, x2⟩, hx⟩ : ∃ x, l[j]? = some x := ⟨_, List.getElem?_eq_getElem (by rw [HO.out.2]; omega)⟩
        have hcx := arcs2_at l j x1 x2 hx
        have hcy := arcs2_at l i y1 y2 hy
        have a0 : (w.drewN q).drew.cell? ⟨g, j * 2, none⟩ = some (.int .i64 x1) := (HO.out.1.cellAt _ (by omega)).trans hcx.1
        have a1 : (w.drewN q).drew.cell? ⟨g, j * 2 + 1, none⟩ = some (.int .i64 x2) := (HO.out.1.cellAt _ (by omega)).trans hcx.2
        have c0 : (w.drewN q).drew.cell? ⟨g, i * 2, none⟩ = some (.int .i64 y1) := (HO.out.1.cellAt _ (by omega)).trans hcy.1
        have c1 : (w.drewN q).drew.cell? ⟨g, i * 2 + 1, none⟩ = some (.int .i64 y2) := (HO.out.1.cellAt _ (by omega)).trans hcy.2
        have i0 : (0 : Int) ≤ (i : Int) := by omega
        have i1 : (i : Int) < (n : Int) := by omega
        have j0 : (0 : Int) ≤ (j : Int) := by omega
        have j1 : (j : Int) < (n : Int) := by omega
        have i3 : (n : Int) ≤ 1000 := by omega
        have i4 : wrap64 ((j : Int) - 1) = (i : Int) := by unfold wrap64; omega
        have HI := Lib.hid (And.intro hik (And.intro hdd (And.intro hx (And.intro hy hj))))
        by_cases hxy : x1 = y1 ∧ x2 = y2
        · obtain ⟨h1, h2⟩ := hxy
          obtain rfl : y1 = x1 := h1.symm
          obtain rfl : y2 = x2 := h2.symm
          clear h1 h2 hik hin hdd hx hy hcx hcy hi hj
          go_upto_region 6 with (fail)
          refine start_ (n := 10) (S := fun w' => w'.cell? ⟨g, j * 2, none⟩ = some (.int .i64 y1) ∧ w'.cell? ⟨g, j * 2 + 1, none⟩ = some (.int .i64 y2) ∧ w'.cell? ⟨g, i * 2, none⟩ = some (.int .i64 y1) ∧ w'.cell? ⟨g, i * 2 + 1, none⟩ = some (.int .i64 y2)) (ds := []) (bA 10 0) (by kernel_rfl) rfl rfl ⟨a0, a1, c0, c1⟩ (fun hHeld => ?_)
          refine with_tabW tb43_6.tab6 tb43_6.bits6 (fun HT_ HW_ => ?_)
          refine pw_ 0 16 (bA 10 1) HT_.out ?_
          refine pw_ 1 17 (bA 10 3) HT_.out ?_
          refine pw_ 2 18 (bA 10 7) HT_.out ?_
          refine pw_ 4 20 (bA 10 23) HT_.out ?_
          refine pw_ 5 21 (bA 10 55) HT_.out ?_
          refine pw_ 6 22 (bA 10 119) HT_.out ?_
          refine pw_ 7 23 (bA 10 247) HT_.out ?_
          refine tw_ 3 19 (bA 10 255) HT_.out HW_.out hHeld (hv := by rintro w' ⟨s0, s1, s2, s3⟩; go_simp; with_reducible rfl) (h := ?_)
          refine tw_ 8 24 (bA 10 511) HT_.out HW_.out hHeld (hv := by rintro w' ⟨s0, s1, s2, s3⟩; go_simp; with_reducible rfl) (h := ?_)
          refine pw_ 9 25 (bA 10 1023) HT_.out ?_
          refine done_ (done_of HT_.out (by kernel_rfl)) ?_
          clear hHeld HT_ HW_
          obtain ⟨hik, hdd, hx, hy, hj⟩ := HI.out
          have hS : Sq w (w.drewN q).drew base g n c l j (j + 1) := ⟨⟨l, HO.out.1, by
            rw [hj, dd_eq hy (hj ▸ hx), hdd], fun _ _ => rfl⟩, by
            rw [hj, dd_eq hy (hj ▸ hx), hdd, List.length_take]
            have := HO.out.2
            omega, by omega, by omega, ((Kpt.refl _ w).drewN q).drew⟩
          have HS := Lib.hid hS
          have hjn : j < n := by omega
          have c3 : ¬ c = j := by omega
          have j2 : (j : Int) ≤ (n : Int) := by omega
          obtain ⟨mm, hmm⟩ : ∃ mm, n - j = mm := ⟨_, rfl⟩
          have HJ := Lib.hid (And.intro hjn hmm)
          have m0 : 0 < mm := by omega
          have m3 : (mm : Int) ≤ 1000 := by omega
          refine gen_then (fun W => Sq w W base g n c l j (j + 1)) HS.out ?_
          clear HS hS hik hdd hx hy hj a0 a1 c0 c1 HI
          intro wB hS
          have HS := Lib.hid hS
          clear hS
          go_wp2_with fail
          clear hmm hjn i4
          go_loopg [3, 5] mm (fun kq v3 v5 w' => ∃ k m : Nat, v3 = .int .i64 (k : Int) ∧ v5 = .int .i64 (m : Int) ∧ Hid (m + kq = mm + 1 ∧ 1 ≤ m ∧ m ≤ mm ∧ Sq w w' base g n c l k (j + m)))
          case atStart => exact ⟨j, 1, rfl, rfl, Lib.hid ⟨by omega, by omega, by omega, HS.out⟩⟩
          case round =>
            obtain ⟨k, m, rfl, rfl, hI⟩ := hrel
            obtain ⟨hmk, hm1, hmle, hS⟩ := hI.out
            clear hI HS
            have hjn := HJ.out.1
            have hmm := HJ.out.2
            have hkn : k < n := by have := hS.kp; omega
            have k0' : (0 : Int) ≤ (k : Int) := by omega
            have k1' : (k : Int) < (n : Int) := by omega
            by_cases hm : m < mm
            · obtain ⟨k2, rfl⟩ : ∃ k2, gk = k2 + 1 := ⟨gk - 1, by omega⟩
              obtain ⟨m1, rfl⟩ : ∃ m1, m = m1 + 1 := ⟨m - 1, by omega⟩
              obtain ⟨D, hD, htk, hsame⟩ := hS.ex
              obtain ⟨⟨v1, v2⟩, hv⟩ : ∃ x, l[j + m1]? = some x := ⟨_, List.getElem?_eq_getElem (by rw [HO.out.2]; omega)⟩
              obtain ⟨⟨z1, z2⟩, hz⟩ : ∃ x, l[j + m1 + 1]? = some x := ⟨_, List.getElem?_eq_getElem (by rw [HO.out.2]; omega)⟩
              have hdv := arcs2_at D (j + m1) v1 v2 ((hsame _ (by omega)).trans hv)
              have hdz := arcs2_at D (j + m1 + 1) z1 z2 ((hsame _ (by omega)).trans hz)
              rw [show (j + m1) * 2 = j * 2 + m1 * 2 by omega] at hdv
              rw [show (j + m1 + 1) * 2 = j * 2 + (m1 + 1) * 2 by omega] at hdz
              obtain ⟨m, hm2⟩ : ∃ m, m1 + 1 = m := ⟨_, rfl⟩
              rw [hm2] at hdz
              have b0 : wr.drew.cell? ⟨g, j * 2 + m * 2, none⟩ = some (.int .i64 z1) := (hD.cellAt _ (by omega)).trans hdz.1
              have b1 : wr.drew.cell? ⟨g, j * 2 + m * 2 + 1, none⟩ = some (.int .i64 z2) := (hD.cellAt _ (by omega)).trans hdz.2
              have d0 : wr.drew.cell? ⟨g, j * 2 + m1 * 2, none⟩ = some (.int .i64 v1) := (hD.cellAt _ (by omega)).trans hdv.1
              have d1 : wr.drew.cell? ⟨g, j * 2 + m1 * 2 + 1, none⟩ = some (.int .i64 v2) := (hD.cellAt _ (by omega)).trans hdv.2
              have hDl : D.length = n := by have := hD.1; rw [arcs2_length] at this; omega
              have hp : j + m1 + 1 + 1 = j + (m1 + 1 + 1) := by omega
              have hp0 : j + (m1 + 1) = j + m1 + 1 := by omega
              rw [hp0] at hS htk hsame
              have m1n : (0 : Int) ≤ (m1 : Int) := by omega
              have m2n : (m1 : Int) < (mm : Int) := by omega
              have m3n : (0 : Int) ≤ (m : Int) := by omega
              have m4n : (m : Int) < (mm : Int) := by omega
              have m5n : wrap64 ((m : Int) - 1) = (m1 : Int) := by unfold wrap64; omega
              rw [hm2]
              have HM := Lib.hid (And.intro hmk (And.intro hm2 (And.intro hmm hjn)))
              by_cases hzv : z1 = v1 ∧ z2 = v2
              · have hS' : Sq w wr.drew base g n c l k (j + (m + 1)) := by
                  obtain ⟨rfl, rfl⟩ := hzv
                  have hdd := dd_eq hv hz
                  rw [← hm2, ← hp]
                  exact ⟨⟨D, hD, by rw [hdd]; exact htk, fun t ht => hsame t (by omega)⟩, by rw [hdd]; exact hS.kk, by have := hS.kp; omega, hS.k0, hS.kpt.drew⟩
                have HS := Lib.hid hS'
                obtain ⟨h1, h2⟩ := hzv
                obtain rfl : v1 = z1 := h1.symm
                obtain rfl : v2 = z2 := h2.symm
                clear h1 h2 hD htk hsame hv hz hdv hdz hDl hp hp0 hS hS' hmk hm1 hmle hm hm2 hmm hjn hkn
                go_upto_region 11 with (fail)
                refine start_ (n := 10) (S := fun w' => w'.cell? ⟨g, j * 2 + m * 2, none⟩ = some (.int .i64 v1) ∧ w'.cell? ⟨g, j * 2 + m * 2 + 1, none⟩ = some (.int .i64 v2) ∧ w'.cell? ⟨g, j * 2 + m1 * 2, none⟩ = some (.int .i64 v1) ∧ w'.cell? ⟨g, j * 2 + m1 * 2 + 1, none⟩ = some (.int .i64 v2)) (ds := []) (bA 10 0) (by kernel_rfl) rfl rfl ⟨b0, b1, d0, d1⟩ (fun hHeld => ?_)
                refine with_tabW tb43_11.tab11 tb43_11.bits11 (fun HT_ HW_ => ?_)
                refine pw_ 0 35 (bA 10 1) HT_.out ?_
                refine pw_ 1 36 (bA 10 3) HT_.out ?_
                refine pw_ 2 37 (bA 10 7) HT_.out ?_
                refine pw_ 4 39 (bA 10 23) HT_.out ?_
                refine pw_ 5 40 (bA 10 55) HT_.out ?_
                refine pw_ 6 41 (bA 10 119) HT_.out ?_
                refine pw_ 7 42 (bA 10 247) HT_.out ?_
                refine tw_ 3 38 (bA 10 255) HT_.out HW_.out hHeld (hv := by rintro w' ⟨s0, s1, s2, s3⟩; go_simp; with_reducible rfl) (h := ?_)
                refine tw_ 8 43 (bA 10 511) HT_.out HW_.out hHeld (hv := by rintro w' ⟨s0, s1, s2, s3⟩; go_simp; with_reducible rfl) (h := ?_)
                refine pw_ 9 44 (bA 10 1023) HT_.out ?_
                refine done_ (done_of HT_.out (by kernel_rfl)) ?_
                clear hHeld HT_ HW_; clear b0 b1 d0 d1
                go_wp2
                go_roundg k2
                case measure => omega
                case rel => exact ⟨k, m + 1, by go_num, by go_num, Lib.hid ⟨by have := HM.out; omega, by omega, by omega, HS.out⟩⟩
              · have hS' : Sq w ((wr.drew.setCell ⟨g, k * 2, none⟩ (.int .i64 z1)).setCell ⟨g, k * 2 + 1, none⟩ (.int .i64 z2)) base g n c l (k + 1) (j + (m + 1)) := by
                  have hdd := dd_ne hv hz fun e => hzv (by cases e; exact ⟨rfl, rfl⟩)
                  rw [← hm2, ← hp]
                  refine ⟨⟨D.set k (z1, z2), own_set2 (x := (z1, z2)) (show wr.drew.ownsRow base 69 2 (.slice (some ⟨g, 0, none⟩) n c) n (arcs2 D) from hD) k, ?_, fun t ht => ?_⟩, by rw [hdd, List.length_append, List.length_singleton, ← hS.kk], by have := hS.kp; omega, by omega, (hS.kpt.drew.set (fun _ => rfl) (q := ⟨g, k * 2, none⟩) _).set (fun _ => rfl) (q := ⟨g, k * 2 + 1, none⟩) _⟩
                  · rw [hdd, ← htk, List.take_add_one, List.getElem?_set_self (by omega), List.take_set_of_le (Nat.le_refl _)]
                    rfl
                  · have := hS.kp
                    rw [List.getElem?_set_ne (by omega)]
                    exact hsame t (by omega)
                have HS := Lib.hid hS'
                have hkD : k * 2 + 1 < (arcs2 D).length := by rw [arcs2_length]; omega
                have e0 : wr.drew.cell? ⟨g, k * 2, none⟩ = some ((arcs2 D)[k * 2]) := (hD.cellAt _ (by omega)).trans (List.getElem?_eq_getElem (by omega))
                have e1 : wr.drew.cell? ⟨g, k * 2 + 1, none⟩ = some ((arcs2 D)[k * 2 + 1]) := (hD.cellAt _ (by omega)).trans (List.getElem?_eq_getElem hkD)
                have f0 : wr.drew.frozen? ⟨g, k * 2, none⟩ = false := hD.frozenAt _
                have f1 : wr.drew.frozen? ⟨g, k * 2 + 1, none⟩ = false := hD.frozenAt _
                generalize (arcs2 D)[k * 2] = ee0 at e0
                generalize (arcs2 D)[k * 2 + 1] = ee1 at e1
                have j3 : (k : Int) + 1 ≤ 1000 := by omega
                by_cases hz1 : z1 = v1
                · obtain rfl : v1 = z1 := hz1.symm
                  have hz2 : ¬ z2 = v2 := fun e => hzv ⟨rfl, e⟩
                  clear hzv hkD hD htk hsame hv hz hdv hdz hDl hp hp0 hS hS' hmk hm1 hmle hm hm2 hmm hjn hkn
                  go_upto_region 11 with (fail)
                  refine start_ (n := 10) (S := fun w' => w'.cell? ⟨g, j * 2 + m * 2, none⟩ = some (.int .i64 v1) ∧ w'.cell? ⟨g, j * 2 + m * 2 + 1, none⟩ = some (.int .i64 z2) ∧ w'.cell? ⟨g, j * 2 + m1 * 2, none⟩ = some (.int .i64 v1) ∧ w'.cell? ⟨g, j * 2 + m1 * 2 + 1, none⟩ = some (.int .i64 v2)) (ds := []) (bA 10 0) (by kernel_rfl) rfl rfl ⟨b0, b1, d0, d1⟩ (fun hHeld => ?_)
                  refine with_tabW tb43_11.tab11 tb43_11.bits11 (fun HT_ HW_ => ?_)
                  refine pw_ 0 35 (bA 10 1) HT_.out ?_
                  refine pw_ 1 36 (bA 10 3) HT_.out ?_
                  refine pw_ 2 37 (bA 10 7) HT_.out ?_
                  refine pw_ 4 39 (bA 10 23) HT_.out ?_
                  refine pw_ 5 40 (bA 10 55) HT_.out ?_
                  refine pw_ 6 41 (bA 10 119) HT_.out ?_
                  refine pw_ 7 42 (bA 10 247) HT_.out ?_
                  refine tw_ 3 38 (bA 10 255) HT_.out HW_.out hHeld (hv := by rintro w' ⟨s0, s1, s2, s3⟩; go_simp; with_reducible rfl) (h := ?_)
                  refine tw_ 8 43 (bA 10 511) HT_.out HW_.out hHeld (hv := by rintro w' ⟨s0, s1, s2, s3⟩; go_simp; with_reducible rfl) (h := ?_)
                  refine pw_ 9 44 (bA 10 1023) HT_.out ?_
                  refine done_ (done_of HT_.out (by kernel_rfl)) ?_
                  clear hHeld HT_ HW_; clear d0 d1
                  revert f1; revert f0; revert e1; revert e0; revert HS; revert b1; revert b0
                  generalize wr.drew = wd
                  intro b0 b1 HS e0 e1 f0 f1
                  go_upto_region 13 with (fail)
                  refine gen_world (fun W => Sq w W base g n c l (k + 1) (j + (m + 1))) HS.out ?_
                  clear HS e0 e1 f0 f1 b0 b1
                  intro wz hS
                  have HS := Lib.hid hS
                  clear hS
                  go_wp2
                  go_roundg k2
                  case measure => omega
                  case rel => exact ⟨k + 1, m + 1, by go_num, by go_num, Lib.hid ⟨by have := HM.out; omega, by omega, by omega, HS.out⟩⟩
                · clear hzv hkD hD htk hsame hv hz hdv hdz hDl hp hp0 hS hS' hmk hm1 hmle hm hm2 hmm hjn hkn
                  go_upto_region 11 with (fail)
                  refine start_ (n := 10) (S := fun w' => w'.cell? ⟨g, j * 2 + m * 2, none⟩ = some (.int .i64 z1) ∧ w'.cell? ⟨g, j * 2 + m * 2 + 1, none⟩ = some (.int .i64 z2) ∧ w'.cell? ⟨g, j * 2 + m1 * 2, none⟩ = some (.int .i64 v1) ∧ w'.cell? ⟨g, j * 2 + m1 * 2 + 1, none⟩ = some (.int .i64 v2)) (ds := []) (bA 10 0) (by kernel_rfl) rfl rfl ⟨b0, b1, d0, d1⟩ (fun hHeld => ?_)
                  refine with_tabW tb43_11.tab11 tb43_11.bits11 (fun HT_ HW_ => ?_)
                  refine pw_ 0 35 (bA 10 1) HT_.out ?_
                  refine pw_ 1 36 (bA 10 3) HT_.out ?_
                  refine pw_ 2 37 (bA 10 7) HT_.out ?_
                  refine pw_ 4 39 (bA 10 23) HT_.out ?_
                  refine pw_ 5 40 (bA 10 55) HT_.out ?_
                  refine pw_ 6 41 (bA 10 119) HT_.out ?_
                  refine pw_ 7 42 (bA 10 247) HT_.out ?_
                  refine tw_ 3 38 (bA 10 255) HT_.out HW_.out hHeld (hv := by rintro w' ⟨s0, s1, s2, s3⟩; go_simp; with_reducible rfl) (h := ?_)
                  refine tw_ 8 43 (bA 10 511) HT_.out HW_.out hHeld (hv := by rintro w' ⟨s0, s1, s2, s3⟩; go_simp; with_reducible rfl) (h := ?_)
                  refine pw_ 9 44 (bA 10 1023) HT_.out ?_
                  refine done_ (done_of HT_.out (by kernel_rfl)) ?_
                  clear hHeld HT_ HW_; clear d0 d1
                  revert f1; revert f0; revert e1; revert e0; revert HS; revert b1; revert b0
                  generalize wr.drew = wd
                  intro b0 b1 HS e0 e1 f0 f1
                  go_upto_region 13 with (fail)
                  refine gen_world (fun W => Sq w W base g n c l (k + 1) (j + (m + 1))) HS.out ?_
                  clear HS e0 e1 f0 f1 b0 b1
                  intro wz hS
                  have HS := Lib.hid hS
                  clear hS
                  go_wp2
                  go_roundg k2
                  case measure => omega
                  case rel => exact ⟨k + 1, m + 1, by go_num, by go_num, Lib.hid ⟨by have := HM.out; omega, by omega, by omega, HS.out⟩⟩
            · obtain rfl : m = mm := by omega
              have hc3 : ¬ c = k := by omega
              obtain ⟨D, hD, htk, _⟩ := hS.ex
              have hjm : j + m = n := by omega
              rw [hjm] at hS htk
              have hlt : l.take n = l := List.take_of_length_le (by rw [HO.out.2]; omega)
              rw [hlt] at htk
              have hkk := hS.kk
              rw [hlt] at hkk
              have hclr := fun c2 => run_clearA hD k (n - k) c2 0 (by omega) (by omega)
              obtain ⟨Z, hZ⟩ : ∃ Z, (Builtin.zeroCells #[.int .i64 0, .int .i64 0] (n - k)).toList = Z := ⟨_, rfl⟩
              rw [hZ] at hclr
              obtain ⟨xs', ho', hpre, hkz⟩ := own_tail Z wr (k * 2) _ hD
              have hfin := own_cut ho' (Nat.le_of_lt hkn)
              rw [hpre, arcs2_take, htk] at hfin
              have HZ := Lib.hid (And.intro hkk (And.intro hfin (hS.kpt.trans hkz)))
              have m2n : ¬ ((m : Int) < (m : Int)) := by omega
              have k2' : (k : Int) ≤ (n : Int) := by omega
              have k3' : (k : Int) ≤ (c : Int) := by omega
              clear hS hD htk hlt hkk ho' hpre hkz hfin hmk hm1 hmle hm hmm hjn hkn hjm hZ
              go_wp2
              go_ret
              exact ⟨k, rfl, HZ.out⟩
        · have HN := Lib.hid (show ∃ i, j + 1 = i + 1 ∧ i + k1 = n ∧ i + 1 ≤ n ∧ dd (l.take (i + 1)) = l.take (i + 1) ∧ ∃ q', (w.drewN q).drew = w.drewN q' from ⟨j, rfl, by omega, by omega, by
            rw [hj, dd_ne hy (hj ▸ hx) (fun e => hxy (by cases e; exact ⟨rfl, rfl⟩)), hdd, take_snoc (l := l) (j := i + 1) (hj ▸ hx)], q + 1, rfl⟩)
          have j3 : (j : Int) + 1 ≤ 1000 := by omega
          by_cases hx1 : x1 = y1
          · obtain rfl : y1 = x1 := hx1.symm
            have hx2 : ¬ x2 = y2 := fun e => hxy ⟨rfl, e⟩
            clear hxy hik hdd hx hy hcx hcy hi hj hin HI
            go_upto_region 6 with (fail)
            refine start_ (n := 10) (S := fun w' => w'.cell? ⟨g, j * 2, none⟩ = some (.int .i64 y1) ∧ w'.cell? ⟨g, j * 2 + 1, none⟩ = some (.int .i64 x2) ∧ w'.cell? ⟨g, i * 2, none⟩ = some (.int .i64 y1) ∧ w'.cell? ⟨g, i * 2 + 1, none⟩ = some (.int .i64 y2)) (ds := []) (bA 10 0) (by kernel_rfl) rfl rfl ⟨a0, a1, c0, c1⟩ (fun hHeld => ?_)
            refine with_tabW tb43_6.tab6 tb43_6.bits6 (fun HT_ HW_ => ?_)
            refine pw_ 0 16 (bA 10 1) HT_.out ?_
            refine pw_ 1 17 (bA 10 3) HT_.out ?_
            refine pw_ 2 18 (bA 10 7) HT_.out ?_
            refine pw_ 4 20 (bA 10 23) HT_.out ?_
            refine pw_ 5 21 (bA 10 55) HT_.out ?_
            refine pw_ 6 22 (bA 10 119) HT_.out ?_
            refine pw_ 7 23 (bA 10 247) HT_.out ?_
            refine tw_ 3 19 (bA 10 255) HT_.out HW_.out hHeld (hv := by rintro w' ⟨s0, s1, s2, s3⟩; go_simp; with_reducible rfl) (h := ?_)
            refine tw_ 8 24 (bA 10 511) HT_.out HW_.out hHeld (hv := by rintro w' ⟨s0, s1, s2, s3⟩; go_simp; with_reducible rfl) (h := ?_)
            refine pw_ 9 25 (bA 10 1023) HT_.out ?_
            refine done_ (done_of HT_.out (by kernel_rfl)) ?_
            clear hHeld HT_ HW_; clear a0 a1 c0 c1
            go_wp2
            go_roundg k1
            case measure => omega
            case rel => exact ⟨j + 1, by go_num, HN⟩
          · clear hxy hik hdd hx hy hcx hcy hi hj hin HI
            go_upto_region 6 with (fail)
            refine start_ (n := 10) (S := fun w' => w'.cell? ⟨g, j * 2, none⟩ = some (.int .i64 x1) ∧ w'.cell? ⟨g, j * 2 + 1, none⟩ = some (.int .i64 x2) ∧ w'.cell? ⟨g, i * 2, none⟩ = some (.int .i64 y1) ∧ w'.cell? ⟨g, i * 2 + 1, none⟩ = some (.int .i64 y2)) (ds := []) (bA 10 0) (by kernel_rfl) rfl rfl ⟨a0, a1, c0, c1⟩ (fun hHeld => ?_)
            refine with_tabW tb43_6.tab6 tb43_6.bits6 (fun HT_ HW_ => ?_)
            refine pw_ 0 16 (bA 10 1) HT_.out ?_
            refine pw_ 1 17 (bA 10 3) HT_.out ?_
            refine pw_ 2 18 (bA 10 7) HT_.out ?_
            refine pw_ 4 20 (bA 10 23) HT_.out ?_
            refine pw_ 5 21 (bA 10 55) HT_.out ?_
            refine pw_ 6 22 (bA 10 119) HT_.out ?_
            refine pw_ 7 23 (bA 10 247) HT_.out ?_
            refine tw_ 3 19 (bA 10 255) HT_.out HW_.out hHeld (hv := by rintro w' ⟨s0, s1, s2, s3⟩; go_simp; with_reducible rfl) (h := ?_)
            refine tw_ 8 24 (bA 10 511) HT_.out HW_.out hHeld (hv := by rintro w' ⟨s0, s1, s2, s3⟩; go_simp; with_reducible rfl) (h := ?_)
            refine pw_ 9 25 (bA 10 1023) HT_.out ?_
            refine done_ (done_of HT_.out (by kernel_rfl)) ?_
            clear hHeld HT_ HW_; clear a0 a1 c0 c1
            go_wp2
            go_roundg k1
            case measure => omega
            case rel => exact ⟨j + 1, by go_num, HN⟩
      · have hjn : j = n := by omega
        have hlt : l.take n = l := List.take_of_length_le (by rw [HO.out.2]; omega)
        have hde : dd l = l := by
          rw [← hj, hjn, hlt] at hdd
          exact hdd
        have HZ := Lib.hid (show n = (dd l).length ∧ (w.drewN q).ownsRow base 69 2 (.slice (some ⟨g, 0, none⟩) n c) n (arcs2 (dd l)) ∧ Kpt (fun x => x = g) w (w.drewN q) from ⟨by rw [hde, HO.out.2], by rw [hde]; exact own_drewN HO.out.1 q, (Kpt.refl _ _).drewN q⟩)
        subst hjn
        clear hik hdd hin hlt hde hj hi
        go_wp2
        go_ret
        exact ⟨_, rfl, HZ.out⟩
end Go.Proofs.Ythomnpgpbhpojaa.Cd

/-
  DERIVED: THE SHELF's CONTRACTS AT THIS DUMP, IN PLAIN WORDS (tools/lay-plain.mjs out of 'TrySorts.lean', which tools/lay-shelf.mjs wrote): THE SAME DECLARATIONS UNDER THE SAME NAMES: 'import', 'namespace', 'open', 'def', 'theorem' AND NOTHING ELSE: no command of the shelf's: FOR A HAND-IN. Each laying: the table of numbers ('.._ren') and one theorem, a field a fact of the dump's own or the kernel's comparison; each contract: ONE APPLICATION.
-/
namespace Go.Proofs
set_option linter.unusedSimpArgs false
set_option linter.unusedVariables false
open Go.Shelf
def Try.sortArc_ren : Go.Shelf.Ren := ⟨fun | 6 => 39 | 15 => 58 | 14 => 57 | 28 => 76 | 29 => 77 | 20 => 68 | 21 => 69 | 22 => 70 | 23 => 71 | 24 => 72 | 25 => 73 | 26 => 74 | 27 => 75 | 46 => 91 | 47 => 92 | 48 => 93 | 49 => 94 | 50 => 95 | 57 => 102 | n => n, fun | 22 => 50 | 24 => 69 | 25 => 77 | 3 => 3 | 39 => 43 | 0 => 0 | 53 => 34 | 55 => 116 | 4 => 4 | 46 => 109 | 45 => 108 | 50 => 59 | 5 => 5 | 9 => 9 | 66 => 128 | 70 => 132 | 76 => 141 | 77 => 142 | n => n, fun | n => n⟩
theorem Try.sortArc : Go.Proofs.SlLaysF0.n6 Try.prog Try.sortArc_ren := {
  mixed := by kernel_rfl
  f6 := ⟨Try.f39.name, by decide, Try.func39.trans (congrArg some (by kernel_rfl))⟩
  f14 := ⟨Try.f57.name, by decide, Try.func57.trans (congrArg some (by kernel_rfl))⟩
  f15 := Try.func58.trans (congrArg some (by kernel_rfl))
  f20 := ⟨Try.f68.name, by decide, Try.func68.trans (congrArg some (by kernel_rfl))⟩
  f21 := ⟨Try.f69.name, by decide, Try.func69.trans (congrArg some (by kernel_rfl))⟩
  f22 := ⟨Try.f70.name, by decide, Try.func70.trans (congrArg some (by kernel_rfl))⟩
  f23 := ⟨Try.f71.name, by decide, Try.func71.trans (congrArg some (by kernel_rfl))⟩
  f24 := ⟨Try.f72.name, by decide, Try.func72.trans (congrArg some (by kernel_rfl))⟩
  f25 := ⟨Try.f73.name, by decide, Try.func73.trans (congrArg some (by kernel_rfl))⟩
  f26 := ⟨Try.f74.name, by decide, Try.func74.trans (congrArg some (by kernel_rfl))⟩
  f27 := ⟨Try.f75.name, by decide, Try.func75.trans (congrArg some (by kernel_rfl))⟩
  f28 := Try.func76.trans (congrArg some (by kernel_rfl))
  f29 := Try.func77.trans (congrArg some (by kernel_rfl))
  f46 := ⟨Try.f91.name, by decide, Try.func91.trans (congrArg some (by kernel_rfl))⟩
  f47 := Try.func92.trans (congrArg some (by kernel_rfl))
  f48 := Try.func93.trans (congrArg some (by kernel_rfl))
  f49 := ⟨Try.f94.name, by decide, Try.func94.trans (congrArg some (by kernel_rfl))⟩
  f50 := ⟨Try.f95.name, by decide, Try.func95.trans (congrArg some (by kernel_rfl))⟩
  f57 := ⟨Try.f102.name, by decide, Try.func102.trans (congrArg some (by kernel_rfl))⟩
  t0 := Try.underlying0
  a0 := Try.isAgg0
  z0 := Try.sizeOf0
  v0 := Try.zeroValue0
  t3 := Try.underlying3
  a3 := Try.isAgg3
  z3 := Try.sizeOf3
  v3 := Try.zeroValue3
  t4 := Try.underlying4
  a4 := Try.isAgg4
  z4 := Try.sizeOf4
  v4 := Try.zeroValue4
  t5 := Try.underlying5
  a5 := Try.isAgg5
  z5 := Try.sizeOf5
  v5 := Try.zeroValue5
  t9 := Try.underlying9
  a9 := Try.isAgg9
  z9 := Try.sizeOf9
  v9 := Try.zeroValue9
  t22 := Try.underlying50
  a22 := Try.isAgg50
  z22 := Try.sizeOf50
  v22 := Try.zeroValue50
  t25 := Try.underlying77
  a25 := Try.isAgg77
  z25 := Try.sizeOf77
  v25 := Try.zeroValue77
  t39 := Try.underlying43
  a39 := Try.isAgg43
  z39 := Try.sizeOf43
  v39 := Try.zeroValue43
  t45 := Try.underlying108
  a45 := Try.isAgg108
  z45 := Try.sizeOf108
  v45 := Try.zeroValue108
  t46 := Try.underlying109
  a46 := Try.isAgg109
  z46 := Try.sizeOf109
  v46 := Try.zeroValue109
  t50 := Try.underlying59
  a50 := Try.isAgg59
  z50 := Try.sizeOf59
  v50 := Try.zeroValue59
  t53 := Try.underlying34
  a53 := Try.isAgg34
  z53 := Try.sizeOf34
  v53 := Try.zeroValue34
  t55 := Try.underlying116
  a55 := Try.isAgg116
  z55 := Try.sizeOf116
  v55 := Try.zeroValue116
  t66 := Try.underlying128
  a66 := Try.isAgg128
  z66 := Try.sizeOf128
  v66 := Try.zeroValue128
  t70 := Try.underlying132
  a70 := Try.isAgg132
  z70 := Try.sizeOf132
  v70 := Try.zeroValue132
  t76 := Try.underlying141
  a76 := Try.isAgg141
  z76 := Try.sizeOf141
  v76 := Try.zeroValue141
  t77 := Try.underlying142
  a77 := Try.isAgg142
  z77 := Try.sizeOf142
  v77 := Try.zeroValue142 }
end Go.Proofs
