/- slices.Compact of arcs, walked. -/
import Derived.Test.YthomnpgpbhpojaaGreatPw35
import Derived.Laws.IdiomCopy
import Derived.Test.YthomnpgpbhpojaaGreatPw5
import Derived.Shelf.SlSortCmp.WholeK
import Derived.Ground.SlsfProg
import Derived.Test.YthomnpgpbhpojaaGreatProg
import Derived.Shelf.SlSortCmp.NoneTotal
namespace Go.Proofs.YthomnpgpbhpojaaGreat.Cd
open Go Go.RowKit Go.Proofs.YthomnpgpbhpojaaGreat.Mem Go.Proofs.YthomnpgpbhpojaaGreat.Sl Go.Proofs.YthomnpgpbhpojaaGreat.Scc Go.Proofs.YthomnpgpbhpojaaGreat.Tj Go.Proofs.YthomnpgpbhpojaaGreat.Lw Go.Proofs.YthomnpgpbhpojaaGreatW.PrintWords Go.Proofs.YthomnpgpbhpojaaGreatW.PrintLast
attribute [local go_sem ↓] Go.wp_at_zero Go.wp_at_succ
set_option linter.unusedSimpArgs false
set_option linter.unusedVariables false

theorem arcs2_set (l : List (Int × Int)) (j : Nat) (x : Int × Int) : ((arcs2 l).set (j * 2) (.int .i64 x.1)).set (j * 2 + 1) (.int .i64 x.2) = arcs2 (l.set j x) := by
  induction l generalizing j with
  | nil => simp [arcs2]
  | cons p l ih =>
    cases j with
    | zero => simp [arcs2_cons]
    | succ j =>
      rw [arcs2_cons, show (j + 1) * 2 = j * 2 + 1 + 1 by omega, show j * 2 + 1 + 1 + 1 = (j * 2 + 1) + 1 + 1 by omega]
      simp only [List.set_cons_succ]
      rw [ih, ← arcs2_cons]
theorem own_set2 {W : World} {base g n c : Nat} {T : TypeId} {l : List (Int × Int)} (h : W.ownsRow base T 2 (.slice (some ⟨g, 0, none⟩) n c) n (arcs2 l)) (j : Nat) (x : Int × Int) :
    ((W.setCell ⟨g, j * 2, none⟩ (.int .i64 x.1)).setCell ⟨g, j * 2 + 1, none⟩ (.int .i64 x.2)).ownsRow base T 2 (.slice (some ⟨g, 0, none⟩) n c) n (arcs2 (l.set j x)) := by
  have := ((h.stored (j * 2) (.int .i64 x.1)).1.stored (j * 2 + 1) (.int .i64 x.2)).1
  rwa [arcs2_set] at this
theorem own_tail {base g n c size : Nat} {T : TypeId} : ∀ (Z : List Value) (W : World) (o : Nat) (xs : List Value), W.ownsRow base T size (.slice (some ⟨g, 0, none⟩) n c) n xs → ∃ xs', (W.setCells g o Z).ownsRow base T size (.slice (some ⟨g, 0, none⟩) n c) n xs' ∧ xs'.take o = xs.take o ∧ Kpt (fun k => k = g) W (W.setCells g o Z)
  | [], W, o, xs, h => ⟨xs, h, rfl, Kpt.refl _ _⟩
  | z :: Z, W, o, xs, h => by
    obtain ⟨xs', h1, h2, h3⟩ := own_tail Z _ (o + 1) _ (h.stored o z).1
    refine ⟨xs', h1, ?_, ((Kpt.refl (fun k => k = g) W).set (fun _ => rfl) (q := ⟨g, o, none⟩) z).trans h3⟩
    have := congrArg (List.take o) h2
    rw [List.take_take, List.take_take, Nat.min_eq_left (Nat.le_succ o)] at this
    rw [this, List.take_set_of_le (Nat.le_refl _)]
theorem own_cut {W : World} {base g n c k size : Nat} {T : TypeId} {xs : List Value} (h : W.ownsRow base T size (.slice (some ⟨g, 0, none⟩) n c) n xs) (hk : k ≤ n) : W.ownsRow base T size (.slice (some ⟨g, 0, none⟩) k c) k (xs.take (k * size)) := by
  obtain ⟨h1, h2 | ⟨g', cap, cur, hv, hb, hh, hn, hm, hs, hx⟩⟩ := h
  · cases h2.1
  · cases hv
    have hle : k * size ≤ n * size := Nat.mul_le_mul_right _ hk
    refine ⟨by rw [List.length_take, h1]; omega, .inr ⟨g, c, cur, rfl, hb, hh, by omega, hm, hs, ?_⟩⟩
    rw [← hx, List.take_take, Nat.min_eq_left hle]
theorem zeroCells_mem (n : Nat) : ∀ v ∈ (Builtin.zeroCells #[.int .i64 0, .int .i64 0] n).toList, v = .int .i64 0 := fun v hv => by
  unfold Builtin.zeroCells at hv
  simp at hv
  obtain ⟨i, hi, rfl⟩ := hv
  rcases Nat.mod_two_eq_zero_or_one i with h | h <;> simp [h]
theorem zeroCells_len (n : Nat) : (Builtin.zeroCells #[.int .i64 0, .int .i64 0] n).toList.length = n * 2 := by
  unfold Builtin.zeroCells
  simp
theorem run_clearA {W : World} {base g n c : Nat} {xs : List Value} (h : W.ownsRow base 41 2 (.slice (some ⟨g, 0, none⟩) n c) n xs) (k m c2 : Nat) (ty : TypeId) (hm : 0 < m) (hk : k + m ≤ n) :
    (Builtin.clear_ #[38] ty #[.slice (some ⟨g, k * 2, none⟩) m c2]).run Tryz.prog W = .ok (.tuple #[]) (W.setCells g (k * 2) (Builtin.zeroCells #[.int .i64 0, .int .i64 0] m).toList) := by
  have hv : ∀ w, (zeroValue 41).run Tryz.prog w = .ok (.agg #[.int .i64 0, .int .i64 0]) w := fun w => by kernel_rfl
  have hc : (Value.agg #[.int .i64 0, .int .i64 0]).cells = #[.int .i64 0, .int .i64 0] := by kernel_rfl
  have hst := run_storeCells_cells (P := Tryz.prog) g (k * 2) (Builtin.zeroCells #[.int .i64 0, .int .i64 0] m).toList 0 W (fun j hj => by
      rw [zeroCells_len] at hj
      rw [Nat.add_zero, h.cellAt _ (by omega), List.getElem?_eq_getElem (by rw [h.1]; omega)]
      rfl) (fun j hj => h.frozenAt _) (fun v hv => by rw [zeroCells_mem m v hv]; rfl)
  simp only [Nat.add_zero] at hst
  obtain ⟨m', rfl⟩ : ∃ m', m = m' + 1 := ⟨m - 1, by omega⟩
  simp [Builtin.clear_, run_underlying Tryz.underlying38, hv, hc, hst]
end Go.Proofs.YthomnpgpbhpojaaGreat.Cd

/- slices.Compact of arcs: the walk. -/
namespace Go.Proofs.YthomnpgpbhpojaaGreat.Cd
open Go Go.RowKit Go.Proofs.YthomnpgpbhpojaaGreat.Mem Go.Proofs.YthomnpgpbhpojaaGreat.Sl Go.Proofs.YthomnpgpbhpojaaGreat.Scc Go.Proofs.YthomnpgpbhpojaaGreat.Tj Go.Proofs.YthomnpgpbhpojaaGreat.Lw Go.Proofs.YthomnpgpbhpojaaGreatW.PrintWords Go.Proofs.YthomnpgpbhpojaaGreatW.PrintLast
attribute [local go_sem ↓] Go.wp_at_zero Go.wp_at_succ
set_option linter.unusedSimpArgs false
set_option linter.unusedVariables false

def tb34_6.T6 : Bool × List (List Nat × List Nat) := (true, [([], []), ([], []), ([0, 1], [0, 1]), ([2], [2]), ([], []), ([], []), ([5], [5]), ([4, 6], [4, 6]), ([7], [7]), ([3, 8], [3, 8])])
def tb34_6.B6 : List Nat := [0, 0, 3, 7, 0, 0, 32, 112, 240, 511]
theorem tb34_6.tab6 : rtab .any (opsOf Tryz.f34 6) = tb34_6.T6 := by kernel_rfl
theorem tb34_6.bits6 : waitsOk tb34_6.T6.2 tb34_6.B6 = true := by kernel_rfl
def tb34_11.T11 : Bool × List (List Nat × List Nat) := (true, [([], []), ([], []), ([0, 1], [0, 1]), ([2], [2]), ([], []), ([], []), ([5], [5]), ([4, 6], [4, 6]), ([7], [7]), ([3, 8], [3, 8])])
def tb34_11.B11 : List Nat := [0, 0, 3, 7, 0, 0, 32, 112, 240, 511]
theorem tb34_11.tab11 : rtab .any (opsOf Tryz.f34 11) = tb34_11.T11 := by kernel_rfl
theorem tb34_11.bits11 : waitsOk tb34_11.T11.2 tb34_11.B11 = true := by kernel_rfl
structure Sq (w W : World) (base g n c : Nat) (l : List (Int × Int)) (k p : Nat) : Prop where
  ex : ∃ D : List (Int × Int), W.ownsRow base 41 2 (.slice (some ⟨g, 0, none⟩) n c) n (arcs2 D) ∧ D.take k = dd (l.take p) ∧ ∀ t, p ≤ t + 1 → D[t]? = l[t]?
  kk : k = (dd (l.take p)).length
  kp : k < p
  k0 : 0 < k
  kpt : Kpt (fun x => x = g) w W
set_option maxHeartbeats 8000000 in
set_option maxRecDepth 100000 in
theorem compactA_calls (w : World) (base g n c : Nat) (l : List (Int × Int)) (h : w.ownsRow base 41 2 (.slice (some ⟨g, 0, none⟩) n c) n (arcs2 l)) (hl : l.length = n) (hn : n ≤ 1000) :
    Calls Tryz.prog 34 #[.slice (some ⟨g, 0, none⟩) n c] w fun e w' => ∃ k, e = .returned (.slice (some ⟨g, 0, none⟩) k c) ∧ k = (dd l).length ∧ w'.ownsRow base 41 2 (.slice (some ⟨g, 0, none⟩) k c) k (arcs2 (dd l)) ∧ Kpt (fun x => x = g) w w' := by
  have hnc : n ≤ c := by
    rcases h.2 with ⟨h0, _⟩ | ⟨_, _, _, h0, _, _, hx, _⟩
    · cases h0
    · cases h0; exact hx
  by_cases h2 : n < 2
  · have hdd : dd l = l := by
      match l, hl with
      | [], _ => rfl
      | [x], _ => rfl
      | x :: y :: r, h => simp at h; omega
    have HO := Lib.hid (show w.ownsRow base 41 2 (.slice (some ⟨g, 0, none⟩) n c) n (arcs2 (dd l)) from by rw [hdd]; exact h)
    have HL := Lib.hid (show n = (dd l).length from by rw [hdd, hl])
    have i2 : (n : Int) < 2 := by omega
    clear h hl hdd
    go_enter Tryz.func34, Tryz.ntmps34
    go_wp2
    go_ret
    exact ⟨n, rfl, HL.out, HO.out, Kpt.refl _ _⟩
  · have HO := Lib.hid (And.intro h hl)
    have i2 : ¬ ((n : Int) < 2) := by omega
    clear h hl
    go_enter Tryz.func34, Tryz.ntmps34
    go_wp2_with fail
    go_loopg [3] n (fun kq v3 w' => ∃ j : Nat, v3 = .int .i64 (j : Int) ∧ Hid (∃ i, j = i + 1 ∧ i + kq = n ∧ i + 1 ≤ n ∧ dd (l.take (i + 1)) = l.take (i + 1) ∧ ∃ q, w' = w.drewN q))
    case atStart => exact ⟨1, rfl, Lib.hid ⟨0, rfl, by omega, by omega, by
      obtain ⟨a, r, rfl⟩ := List.exists_cons_of_length_pos (show 0 < l.length by have := HO.out.2; omega)
      rfl, 0, rfl⟩⟩
    case round =>
      obtain ⟨j, rfl, hI⟩ := hrel
      obtain ⟨i, hj, hik, hin, hdd, q, rfl⟩ := hI.out
      clear hI
      by_cases hi : j < n
      · obtain ⟨k1, rfl⟩ : ∃ k1, gk = k1 + 1 := ⟨gk - 1, by omega⟩
        obtain ⟨⟨y1, y2⟩, hy⟩ : ∃ x, l[i]? = some x := ⟨_, List.getElem?_eq_getElem (by rw [HO.out.2]; omega)⟩
        obtain ⟨⟨x1, x2⟩, hx⟩ : ∃ x, l[j]? = some x := ⟨_, List.getElem?_eq_getElem (by rw [HO.out.2]; omega)⟩
        have hcx := arcs2_at l j x1 x2 hx
        have hcy := arcs2_at l i y1 y2 hy
        have a0 : (w.drewN q).drew.cell? ⟨g, j * 2, none⟩ = some (.int .i64 x1) := (HO.out.1.cellAt _ (by omega)).trans hcx.1
        have a1 : (w.drewN q).drew.cell? ⟨g, j * 2 + 1, none⟩ = some (.int .i64 x2) := (HO.out.1.cellAt _ (by omega)).trans hcx.2
        have c0 : (w.drewN q).drew.cell? ⟨g, i * 2, none⟩ = some (.int .i64 y1) := (HO.out.1.cellAt _ (by omega)).trans hcy.1
        have c1 : (w.drewN q).drew.cell? ⟨g, i * 2 + 1, none⟩ = some (.int .i64 y2) := (HO.out.1.cellAt _ (by omega)).trans hcy.2
        have i0 : (0 : Int) ≤ (i : Int) := by omega
        have i1 : (i : Int) < (n : Int) := by omega
        have j0 : (0 : Int) ≤ (j : Int) := by omega
        have j1 : (j : Int) < (n : Int) := by omega
        have i3 : (n : Int) ≤ 1000 := by omega
        have i4 : wrap64 ((j : Int) - 1) = (i : Int) := by unfold wrap64; omega
        have HI := Lib.hid (And.intro hik (And.intro hdd (And.intro hx (And.intro hy hj))))
        by_cases hxy : x1 = y1 ∧ x2 = y2
        · obtain ⟨h1, h2⟩ := hxy
          obtain rfl : y1 = x1 := h1.symm
          obtain rfl : y2 = x2 := h2.symm
          clear h1 h2 hik hin hdd hx hy hcx hcy hi hj
          go_upto_region 6 with (fail)
          refine start_ (n := 10) (S := fun w' => w'.cell? ⟨g, j * 2, none⟩ = some (.int .i64 y1) ∧ w'.cell? ⟨g, j * 2 + 1, none⟩ = some (.int .i64 y2) ∧ w'.cell? ⟨g, i * 2, none⟩ = some (.int .i64 y1) ∧ w'.cell? ⟨g, i * 2 + 1, none⟩ = some (.int .i64 y2)) (ds := []) (bA 10 0) (by kernel_rfl) rfl rfl ⟨a0, a1, c0, c1⟩ (fun hHeld => ?_)
          refine with_tabW tb34_6.tab6 tb34_6.bits6 (fun HT_ HW_ => ?_)
          refine pw_ 0 16 (bA 10 1) HT_.out ?_
          refine pw_ 1 17 (bA 10 3) HT_.out ?_
          refine pw_ 2 18 (bA 10 7) HT_.out ?_
          refine pw_ 4 20 (bA 10 23) HT_.out ?_
          refine pw_ 5 21 (bA 10 55) HT_.out ?_
          refine pw_ 6 22 (bA 10 119) HT_.out ?_
          refine pw_ 7 23 (bA 10 247) HT_.out ?_
          refine tw_ 3 19 (bA 10 255) HT_.out HW_.out hHeld (hv := by rintro w' ⟨s0, s1, s2, s3⟩; go_simp; with_reducible rfl) (h := ?_)
          refine tw_ 8 24 (bA 10 511) HT_.out HW_.out hHeld (hv := by rintro w' ⟨s0, s1, s2, s3⟩; go_simp; with_reducible rfl) (h := ?_)
          refine pw_ 9 25 (bA 10 1023) HT_.out ?_
          refine done_ (done_of HT_.out (by kernel_rfl)) ?_
          clear hHeld HT_ HW_
          obtain ⟨hik, hdd, hx, hy, hj⟩ := HI.out
          have hS : Sq w (w.drewN q).drew base g n c l j (j + 1) := ⟨⟨l, HO.out.1, by
            rw [hj, dd_eq hy (hj ▸ hx), hdd], fun _ _ => rfl⟩, by
            rw [hj, dd_eq hy (hj ▸ hx), hdd, List.length_take]
            have := HO.out.2
            omega, by omega, by omega, ((Kpt.refl _ w).drewN q).drew⟩
          have HS := Lib.hid hS
          have hjn : j < n := by omega
          have c3 : ¬ c = j := by omega
          have j2 : (j : Int) ≤ (n : Int) := by omega
          obtain ⟨mm, hmm⟩ : ∃ mm, n - j = mm := ⟨_, rfl⟩
          have HJ := Lib.hid (And.intro hjn hmm)
          have m0 : 0 < mm := by omega
          have m3 : (mm : Int) ≤ 1000 := by omega
          refine gen_then (fun W => Sq w W base g n c l j (j + 1)) HS.out ?_
          clear HS hS hik hdd hx hy hj a0 a1 c0 c1 HI
          intro wB hS
          have HS := Lib.hid hS
          clear hS
          go_wp2_with fail
          clear hmm hjn i4
          go_loopg [3, 5] mm (fun kq v3 v5 w' => ∃ k m : Nat, v3 = .int .i64 (k : Int) ∧ v5 = .int .i64 (m : Int) ∧ Hid (m + kq = mm + 1 ∧ 1 ≤ m ∧ m ≤ mm ∧ Sq w w' base g n c l k (j + m)))
          case atStart => exact ⟨j, 1, rfl, rfl, Lib.hid ⟨by omega, by omega, by omega, HS.out⟩⟩
          case round =>
            obtain ⟨k, m, rfl, rfl, hI⟩ := hrel
            obtain ⟨hmk, hm1, hmle, hS⟩ := hI.out
            clear hI HS
            have hjn := HJ.out.1
            have hmm := HJ.out.2
            have hkn : k < n := by have := hS.kp; omega
            have k0' : (0 : Int) ≤ (k : Int) := by omega
            have k1' : (k : Int) < (n : Int) := by omega
            by_cases hm : m < mm
            · obtain ⟨k2, rfl⟩ : ∃ k2, gk = k2 + 1 := ⟨gk - 1, by omega⟩
              obtain ⟨m1, rfl⟩ : ∃ m1, m = m1 + 1 := ⟨m - 1, by omega⟩
              obtain ⟨D, hD, htk, hsame⟩ := hS.ex
              obtain ⟨⟨v1, v2⟩, hv⟩ : ∃ x, l[j + m1]? = some x := ⟨_, List.getElem?_eq_getElem (by rw [HO.out.2]; omega)⟩
              obtain ⟨⟨z1, z2⟩, hz⟩ : ∃ x, l[j + m1 + 1]? = some x := ⟨_, List.getElem?_eq_getElem (by rw [HO.out.2]; omega)⟩
              have hdv := arcs2_at D (j + m1) v1 v2 ((hsame _ (by omega)).trans hv)
              have hdz := arcs2_at D (j + m1 + 1) z1 z2 ((hsame _ (by omega)).trans hz)
              rw [show (j + m1) * 2 = j * 2 + m1 * 2 by omega] at hdv
              rw [show (j + m1 + 1) * 2 = j * 2 + (m1 + 1) * 2 by omega] at hdz
              obtain ⟨m, hm2⟩ : ∃ m, m1 + 1 = m := ⟨_, rfl⟩
              rw [hm2] at hdz
              have b0 : wr.drew.cell? ⟨g, j * 2 + m * 2, none⟩ = some (.int .i64 z1) := (hD.cellAt _ (by omega)).trans hdz.1
              have b1 : wr.drew.cell? ⟨g, j * 2 + m * 2 + 1, none⟩ = some (.int .i64 z2) := (hD.cellAt _ (by omega)).trans hdz.2
              have d0 : wr.drew.cell? ⟨g, j * 2 + m1 * 2, none⟩ = some (.int .i64 v1) := (hD.cellAt _ (by omega)).trans hdv.1
              have d1 : wr.drew.cell? ⟨g, j * 2 + m1 * 2 + 1, none⟩ = some (.int .i64 v2) := (hD.cellAt _ (by omega)).trans hdv.2
              have hDl : D.length = n := by have := hD.1; rw [arcs2_length] at this; omega
              have hp : j + m1 + 1 + 1 = j + (m1 + 1 + 1) := by omega
              have hp0 : j + (m1 + 1) = j + m1 + 1 := by omega
              rw [hp0] at hS htk hsame
              have m1n : (0 : Int) ≤ (m1 : Int) := by omega
              have m2n : (m1 : Int) < (mm : Int) := by omega
              have m3n : (0 : Int) ≤ (m : Int) := by omega
              have m4n : (m : Int) < (mm : Int) := by omega
              have m5n : wrap64 ((m : Int) - 1) = (m1 : Int) := by unfold wrap64; omega
              rw [hm2]
              have HM := Lib.hid (And.intro hmk (And.intro hm2 (And.intro hmm hjn)))
              by_cases hzv : z1 = v1 ∧ z2 = v2
              · have hS' : Sq w wr.drew base g n c l k (j + (m + 1)) := by
                  obtain ⟨rfl, rfl⟩ := hzv
                  have hdd := dd_eq hv hz
                  rw [← hm2, ← hp]
                  exact ⟨⟨D, hD, by rw [hdd]; exact htk, fun t ht => hsame t (by omega)⟩, by rw [hdd]; exact hS.kk, by have := hS.kp; omega, hS.k0, hS.kpt.drew⟩
                have HS := Lib.hid hS'
                obtain ⟨h1, h2⟩ := hzv
                obtain rfl : v1 = z1 := h1.symm
                obtain rfl : v2 = z2 := h2.symm
                clear h1 h2 hD htk hsame hv hz hdv hdz hDl hp hp0 hS hS' hmk hm1 hmle hm hm2 hmm hjn hkn
                go_upto_region 11 with (fail)
                refine start_ (n := 10) (S := fun w' => w'.cell? ⟨g, j * 2 + m * 2, none⟩ = some (.int .i64 v1) ∧ w'.cell? ⟨g, j * 2 + m * 2 + 1, none⟩ = some (.int .i64 v2) ∧ w'.cell? ⟨g, j * 2 + m1 * 2, none⟩ = some (.int .i64 v1) ∧ w'.cell? ⟨g, j * 2 + m1 * 2 + 1, none⟩ = some (.int .i64 v2)) (ds := []) (bA 10 0) (by kernel_rfl) rfl rfl ⟨b0, b1, d0, d1⟩ (fun hHeld => ?_)
                refine with_tabW tb34_11.tab11 tb34_11.bits11 (fun HT_ HW_ => ?_)
                refine pw_ 0 35 (bA 10 1) HT_.out ?_
                refine pw_ 1 36 (bA 10 3) HT_.out ?_
                refine pw_ 2 37 (bA 10 7) HT_.out ?_
                refine pw_ 4 39 (bA 10 23) HT_.out ?_
                refine pw_ 5 40 (bA 10 55) HT_.out ?_
                refine pw_ 6 41 (bA 10 119) HT_.out ?_
                refine pw_ 7 42 (bA 10 247) HT_.out ?_
                refine tw_ 3 38 (bA 10 255) HT_.out HW_.out hHeld (hv := by rintro w' ⟨s0, s1, s2, s3⟩; go_simp; with_reducible rfl) (h := ?_)
                refine tw_ 8 43 (bA 10 511) HT_.out HW_.out hHeld (hv := by rintro w' ⟨s0, s1, s2, s3⟩; go_simp; with_reducible rfl) (h := ?_)
                refine pw_ 9 44 (bA 10 1023) HT_.out ?_
                refine done_ (done_of HT_.out (by kernel_rfl)) ?_
                clear hHeld HT_ HW_; clear b0 b1 d0 d1
                go_wp2
                go_roundg k2
                case measure => omega
                case rel => exact ⟨k, m + 1, by go_num, by go_num, Lib.hid ⟨by have := HM.out; omega, by omega, by omega, HS.out⟩⟩
              · have hS' : Sq w ((wr.drew.setCell ⟨g, k * 2, none⟩ (.int .i64 z1)).setCell ⟨g, k * 2 + 1, none⟩ (.int .i64 z2)) base g n c l (k + 1) (j + (m + 1)) := by
                  have hdd := dd_ne hv hz fun e => hzv (by cases e; exact ⟨rfl, rfl⟩)
                  rw [← hm2, ← hp]
                  refine ⟨⟨D.set k (z1, z2), own_set2 (x := (z1, z2)) (show wr.drew.ownsRow base 41 2 (.slice (some ⟨g, 0, none⟩) n c) n (arcs2 D) from hD) k, ?_, fun t ht => ?_⟩, by rw [hdd, List.length_append, List.length_singleton, ← hS.kk], by have := hS.kp; omega, by omega, (hS.kpt.drew.set (fun _ => rfl) (q := ⟨g, k * 2, none⟩) _).set (fun _ => rfl) (q := ⟨g, k * 2 + 1, none⟩) _⟩
                  · rw [hdd, ← htk, List.take_add_one, List.getElem?_set_self (by omega), List.take_set_of_le (Nat.le_refl _)]
                    rfl
                  · have := hS.kp
                    rw [List.getElem?_set_ne (by omega)]
                    exact hsame t (by omega)
                have HS := Lib.hid hS'
                have hkD : k * 2 + 1 < (arcs2 D).length := by rw [arcs2_length]; omega
                have e0 : wr.drew.cell? ⟨g, k * 2, none⟩ = some ((arcs2 D)[k * 2]) := (hD.cellAt _ (by omega)).trans (List.getElem?_eq_getElem (by omega))
                have e1 : wr.drew.cell? ⟨g, k * 2 + 1, none⟩ = some ((arcs2 D)[k * 2 + 1]) := (hD.cellAt _ (by omega)).trans (List.getElem?_eq_getElem hkD)
                have f0 : wr.drew.frozen? ⟨g, k * 2, none⟩ = false := hD.frozenAt _
                have f1 : wr.drew.frozen? ⟨g, k * 2 + 1, none⟩ = false := hD.frozenAt _
                generalize (arcs2 D)[k * 2] = ee0 at e0
                generalize (arcs2 D)[k * 2 + 1] = ee1 at e1
                have j3 : (k : Int) + 1 ≤ 1000 := by omega
                by_cases hz1 : z1 = v1
                · obtain rfl : v1 = z1 := hz1.symm
                  have hz2 : ¬ z2 = v2 := fun e => hzv ⟨rfl, e⟩
                  clear hzv hkD hD htk hsame hv hz hdv hdz hDl hp hp0 hS hS' hmk hm1 hmle hm hm2 hmm hjn hkn
                  go_upto_region 11 with (fail)
                  refine start_ (n := 10) (S := fun w' => w'.cell? ⟨g, j * 2 + m * 2, none⟩ = some (.int .i64 v1) ∧ w'.cell? ⟨g, j * 2 + m * 2 + 1, none⟩ = some (.int .i64 z2) ∧ w'.cell? ⟨g, j * 2 + m1 * 2, none⟩ = some (.int .i64 v1) ∧ w'.cell? ⟨g, j * 2 + m1 * 2 + 1, none⟩ = some (.int .i64 v2)) (ds := []) (bA 10 0) (by kernel_rfl) rfl rfl ⟨b0, b1, d0, d1⟩ (fun hHeld => ?_)
                  refine with_tabW tb34_11.tab11 tb34_11.bits11 (fun HT_ HW_ => ?_)
                  refine pw_ 0 35 (bA 10 1) HT_.out ?_
                  refine pw_ 1 36 (bA 10 3) HT_.out ?_
                  refine pw_ 2 37 (bA 10 7) HT_.out ?_
                  refine pw_ 4 39 (bA 10 23) HT_.out ?_
                  refine pw_ 5 40 (bA 10 55) HT_.out ?_
                  refine pw_ 6 41 (bA 10 119) HT_.out ?_
                  refine pw_ 7 42 (bA 10 247) HT_.out ?_
                  refine tw_ 3 38 (bA 10 255) HT_.out HW_.out hHeld (hv := by rintro w' ⟨s0, s1, s2, s3⟩; go_simp; with_reducible rfl) (h := ?_)
                  refine tw_ 8 43 (bA 10 511) HT_.out HW_.out hHeld (hv := by rintro w' ⟨s0, s1, s2, s3⟩; go_simp; with_reducible rfl) (h := ?_)
                  refine pw_ 9 44 (bA 10 1023) HT_.out ?_
                  refine done_ (done_of HT_.out (by kernel_rfl)) ?_
                  clear hHeld HT_ HW_; clear d0 d1
                  revert f1; revert f0; revert e1; revert e0; revert HS; revert b1; revert b0
                  generalize wr.drew = wd
                  intro b0 b1 HS e0 e1 f0 f1
                  go_upto_region 13 with (fail)
                  refine gen_world (fun W => Sq w W base g n c l (k + 1) (j + (m + 1))) HS.out ?_
                  clear HS e0 e1 f0 f1 b0 b1
                  intro wz hS
                  have HS := Lib.hid hS
                  clear hS
                  go_wp2
                  go_roundg k2
                  case measure => omega
                  case rel => exact ⟨k + 1, m + 1, by go_num, by go_num, Lib.hid ⟨by have := HM.out; omega, by omega, by omega, HS.out⟩⟩
                · clear hzv hkD hD htk hsame hv hz hdv hdz hDl hp hp0 hS hS' hmk hm1 hmle hm hm2 hmm hjn hkn
                  go_upto_region 11 with (fail)
                  refine start_ (n := 10) (S := fun w' => w'.cell? ⟨g, j * 2 + m * 2, none⟩ = some (.int .i64 z1) ∧ w'.cell? ⟨g, j * 2 + m * 2 + 1, none⟩ = some (.int .i64 z2) ∧ w'.cell? ⟨g, j * 2 + m1 * 2, none⟩ = some (.int .i64 v1) ∧ w'.cell? ⟨g, j * 2 + m1 * 2 + 1, none⟩ = some (.int .i64 v2)) (ds := []) (bA 10 0) (by kernel_rfl) rfl rfl ⟨b0, b1, d0, d1⟩ (fun hHeld => ?_)
                  refine with_tabW tb34_11.tab11 tb34_11.bits11 (fun HT_ HW_ => ?_)
                  refine pw_ 0 35 (bA 10 1) HT_.out ?_
                  refine pw_ 1 36 (bA 10 3) HT_.out ?_
                  refine pw_ 2 37 (bA 10 7) HT_.out ?_
                  refine pw_ 4 39 (bA 10 23) HT_.out ?_
                  refine pw_ 5 40 (bA 10 55) HT_.out ?_
                  refine pw_ 6 41 (bA 10 119) HT_.out ?_
                  refine pw_ 7 42 (bA 10 247) HT_.out ?_
                  refine tw_ 3 38 (bA 10 255) HT_.out HW_.out hHeld (hv := by rintro w' ⟨s0, s1, s2, s3⟩; go_simp; with_reducible rfl) (h := ?_)
                  refine tw_ 8 43 (bA 10 511) HT_.out HW_.out hHeld (hv := by rintro w' ⟨s0, s1, s2, s3⟩; go_simp; with_reducible rfl) (h := ?_)
                  refine pw_ 9 44 (bA 10 1023) HT_.out ?_
                  refine done_ (done_of HT_.out (by kernel_rfl)) ?_
                  clear hHeld HT_ HW_; clear d0 d1
                  revert f1; revert f0; revert e1; revert e0; revert HS; revert b1; revert b0
                  generalize wr.drew = wd
                  intro b0 b1 HS e0 e1 f0 f1
                  go_upto_region 13 with (fail)
                  refine gen_world (fun W => Sq w W base g n c l (k + 1) (j + (m + 1))) HS.out ?_
                  clear HS e0 e1 f0 f1 b0 b1
                  intro wz hS
                  have HS := Lib.hid hS
                  clear hS
                  go_wp2
                  go_roundg k2
                  case measure => omega
                  case rel => exact ⟨k + 1, m + 1, by go_num, by go_num, Lib.hid ⟨by have := HM.out; omega, by omega, by omega, HS.out⟩⟩
            · obtain rfl : m = mm := by omega
              have hc3 : ¬ c = k := by omega
              obtain ⟨D, hD, htk, _⟩ := hS.ex
              have hjm : j + m = n := by omega
              rw [hjm] at hS htk
              have hlt : l.take n = l := List.take_of_length_le (by rw [HO.out.2]; omega)
              rw [hlt] at htk
              have hkk := hS.kk
              rw [hlt] at hkk
              have hclr := fun c2 => run_clearA hD k (n - k) c2 0 (by omega) (by omega)
              obtain ⟨Z, hZ⟩ : ∃ Z, (Builtin.zeroCells #[.int .i64 0, .int .i64 0] (n - k)).toList = Z := ⟨_, rfl⟩
              rw [hZ] at hclr
              obtain ⟨xs', ho', hpre, hkz⟩ := own_tail Z wr (k * 2) _ hD
              have hfin := own_cut ho' (Nat.le_of_lt hkn)
              rw [hpre, arcs2_take, htk] at hfin
              have HZ := Lib.hid (And.intro hkk (And.intro hfin (hS.kpt.trans hkz)))
              have m2n : ¬ ((m : Int) < (m : Int)) := by omega
              have k2' : (k : Int) ≤ (n : Int) := by omega
              have k3' : (k : Int) ≤ (c : Int) := by omega
              clear hS hD htk hlt hkk ho' hpre hkz hfin hmk hm1 hmle hm hmm hjn hkn hjm hZ
              go_wp2
              go_ret
              exact ⟨k, rfl, HZ.out⟩
        · have HN := Lib.hid (show ∃ i, j + 1 = i + 1 ∧ i + k1 = n ∧ i + 1 ≤ n ∧ dd (l.take (i + 1)) = l.take (i + 1) ∧ ∃ q', (w.drewN q).drew = w.drewN q' from ⟨j, rfl, by omega, by omega, by
            rw [hj, dd_ne hy (hj ▸ hx) (fun e => hxy (by cases e; exact ⟨rfl, rfl⟩)), hdd, take_snoc (l := l) (j := i + 1) (hj ▸ hx)], q + 1, rfl⟩)
          have j3 : (j : Int) + 1 ≤ 1000 := by omega
          by_cases hx1 : x1 = y1
          · obtain rfl : y1 = x1 := hx1.symm
            have hx2 : ¬ x2 = y2 := fun e => hxy ⟨rfl, e⟩
            clear hxy hik hdd hx hy hcx hcy hi hj hin HI
            go_upto_region 6 with (fail)
            refine start_ (n := 10) (S := fun w' => w'.cell? ⟨g, j * 2, none⟩ = some (.int .i64 y1) ∧ w'.cell? ⟨g, j * 2 + 1, none⟩ = some (.int .i64 x2) ∧ w'.cell? ⟨g, i * 2, none⟩ = some (.int .i64 y1) ∧ w'.cell? ⟨g, i * 2 + 1, none⟩ = some (.int .i64 y2)) (ds := []) (bA 10 0) (by kernel_rfl) rfl rfl ⟨a0, a1, c0, c1⟩ (fun hHeld => ?_)
            refine with_tabW tb34_6.tab6 tb34_6.bits6 (fun HT_ HW_ => ?_)
            refine pw_ 0 16 (bA 10 1) HT_.out ?_
            refine pw_ 1 17 (bA 10 3) HT_.out ?_
            refine pw_ 2 18 (bA 10 7) HT_.out ?_
            refine pw_ 4 20 (bA 10 23) HT_.out ?_
            refine pw_ 5 21 (bA 10 55) HT_.out ?_
            refine pw_ 6 22 (bA 10 119) HT_.out ?_
            refine pw_ 7 23 (bA 10 247) HT_.out ?_
            refine tw_ 3 19 (bA 10 255) HT_.out HW_.out hHeld (hv := by rintro w' ⟨s0, s1, s2, s3⟩; go_simp; with_reducible rfl) (h := ?_)
            refine tw_ 8 24 (bA 10 511) HT_.out HW_.out hHeld (hv := by rintro w' ⟨s0, s1, s2, s3⟩; go_simp; with_reducible rfl) (h := ?_)
            refine pw_ 9 25 (bA 10 1023) HT_.out ?_
            refine done_ (done_of HT_.out (by kernel_rfl)) ?_
            clear hHeld HT_ HW_; clear a0 a1 c0 c1
            go_wp2
            go_roundg k1
            case measure => omega
            case rel => exact ⟨j + 1, by go_num, HN⟩
          · clear hxy hik hdd hx hy hcx hcy hi hj hin HI
            go_upto_region 6 with (fail)
            refine start_ (n := 10) (S := fun w' => w'.cell? ⟨g, j * 2, none⟩ = some (.int .i64 x1) ∧ w'.cell? ⟨g, j * 2 + 1, none⟩ = some (.int .i64 x2) ∧ w'.cell? ⟨g, i * 2, none⟩ = some (.int .i64 y1) ∧ w'.cell? ⟨g, i * 2 + 1, none⟩ = some (.int .i64 y2)) (ds := []) (bA 10 0) (by kernel_rfl) rfl rfl ⟨a0, a1, c0, c1⟩ (fun hHeld => ?_)
            refine with_tabW tb34_6.tab6 tb34_6.bits6 (fun HT_ HW_ => ?_)
            refine pw_ 0 16 (bA 10 1) HT_.out ?_
            refine pw_ 1 17 (bA 10 3) HT_.out ?_
            refine pw_ 2 18 (bA 10 7) HT_.out ?_
            refine pw_ 4 20 (bA 10 23) HT_.out ?_
            refine pw_ 5 21 (bA 10 55) HT_.out ?_
            refine pw_ 6 22 (bA 10 119) HT_.out ?_
            refine pw_ 7 23 (bA 10 247) HT_.out ?_
            refine tw_ 3 19 (bA 10 255) HT_.out HW_.out hHeld (hv := by rintro w' ⟨s0, s1, s2, s3⟩; go_simp; with_reducible rfl) (h := ?_)
            refine tw_ 8 24 (bA 10 511) HT_.out HW_.out hHeld (hv := by rintro w' ⟨s0, s1, s2, s3⟩; go_simp; with_reducible rfl) (h := ?_)
            refine pw_ 9 25 (bA 10 1023) HT_.out ?_
            refine done_ (done_of HT_.out (by kernel_rfl)) ?_
            clear hHeld HT_ HW_; clear a0 a1 c0 c1
            go_wp2
            go_roundg k1
            case measure => omega
            case rel => exact ⟨j + 1, by go_num, HN⟩
      · have hjn : j = n := by omega
        have hlt : l.take n = l := List.take_of_length_le (by rw [HO.out.2]; omega)
        have hde : dd l = l := by
          rw [← hj, hjn, hlt] at hdd
          exact hdd
        have HZ := Lib.hid (show n = (dd l).length ∧ (w.drewN q).ownsRow base 41 2 (.slice (some ⟨g, 0, none⟩) n c) n (arcs2 (dd l)) ∧ Kpt (fun x => x = g) w (w.drewN q) from ⟨by rw [hde, HO.out.2], by rw [hde]; exact own_drewN HO.out.1 q, (Kpt.refl _ _).drewN q⟩)
        subst hjn
        clear hik hdd hin hlt hde hj hi
        go_wp2
        go_ret
        exact ⟨_, rfl, HZ.out⟩
end Go.Proofs.YthomnpgpbhpojaaGreat.Cd

/-
  DERIVED: THE SHELF's CONTRACTS AT THIS DUMP, IN PLAIN WORDS (tools/lay-plain.mjs out of 'TryzSorts.lean', which tools/lay-shelf.mjs wrote): THE SAME DECLARATIONS UNDER THE SAME NAMES: 'import', 'namespace', 'open', 'def', 'theorem' AND NOTHING ELSE: no command of the shelf's: FOR A HAND-IN. Each laying: the table of numbers ('.._ren') and one theorem, a field a fact of the dump's own or the kernel's comparison; each contract: ONE APPLICATION.
-/
namespace Go.Proofs
set_option linter.unusedSimpArgs false
set_option linter.unusedVariables false
open Go.Shelf
def Tryz.sortArc_ren : Go.Shelf.Ren := ⟨fun | 6 => 30 | 15 => 57 | 14 => 56 | 28 => 75 | 29 => 76 | 20 => 67 | 21 => 68 | 22 => 69 | 23 => 70 | 24 => 71 | 25 => 72 | 26 => 73 | 27 => 74 | 46 => 89 | 47 => 90 | 48 => 91 | 49 => 92 | 50 => 93 | 57 => 100 | n => n, fun | 22 => 38 | 24 => 41 | 25 => 69 | 3 => 3 | 39 => 93 | 0 => 0 | 53 => 81 | 55 => 110 | 4 => 4 | 46 => 103 | 45 => 102 | 50 => 54 | 5 => 5 | 9 => 9 | 66 => 124 | 70 => 128 | 76 => 137 | 77 => 138 | n => n, fun | n => n⟩
theorem Tryz.sortArc : Go.Proofs.SlLaysF0.n6 Tryz.prog Tryz.sortArc_ren := {
  mixed := by kernel_rfl
  f6 := ⟨Tryz.f30.name, by decide, Tryz.func30.trans (congrArg some (by kernel_rfl))⟩
  f14 := ⟨Tryz.f56.name, by decide, Tryz.func56.trans (congrArg some (by kernel_rfl))⟩
  f15 := Tryz.func57.trans (congrArg some (by kernel_rfl))
  f20 := ⟨Tryz.f67.name, by decide, Tryz.func67.trans (congrArg some (by kernel_rfl))⟩
  f21 := ⟨Tryz.f68.name, by decide, Tryz.func68.trans (congrArg some (by kernel_rfl))⟩
  f22 := ⟨Tryz.f69.name, by decide, Tryz.func69.trans (congrArg some (by kernel_rfl))⟩
  f23 := ⟨Tryz.f70.name, by decide, Tryz.func70.trans (congrArg some (by kernel_rfl))⟩
  f24 := ⟨Tryz.f71.name, by decide, Tryz.func71.trans (congrArg some (by kernel_rfl))⟩
  f25 := ⟨Tryz.f72.name, by decide, Tryz.func72.trans (congrArg some (by kernel_rfl))⟩
  f26 := ⟨Tryz.f73.name, by decide, Tryz.func73.trans (congrArg some (by kernel_rfl))⟩
  f27 := ⟨Tryz.f74.name, by decide, Tryz.func74.trans (congrArg some (by kernel_rfl))⟩
  f28 := Tryz.func75.trans (congrArg some (by kernel_rfl))
  f29 := Tryz.func76.trans (congrArg some (by kernel_rfl))
  f46 := ⟨Tryz.f89.name, by decide, Tryz.func89.trans (congrArg some (by kernel_rfl))⟩
  f47 := Tryz.func90.trans (congrArg some (by kernel_rfl))
  f48 := Tryz.func91.trans (congrArg some (by kernel_rfl))
  f49 := ⟨Tryz.f92.name, by decide, Tryz.func92.trans (congrArg some (by kernel_rfl))⟩
  f50 := ⟨Tryz.f93.name, by decide, Tryz.func93.trans (congrArg some (by kernel_rfl))⟩
  f57 := ⟨Tryz.f100.name, by decide, Tryz.func100.trans (congrArg some (by kernel_rfl))⟩
  t0 := Tryz.underlying0
  a0 := Tryz.isAgg0
  z0 := Tryz.sizeOf0
  v0 := Tryz.zeroValue0
  t3 := Tryz.underlying3
  a3 := Tryz.isAgg3
  z3 := Tryz.sizeOf3
  v3 := Tryz.zeroValue3
  t4 := Tryz.underlying4
  a4 := Tryz.isAgg4
  z4 := Tryz.sizeOf4
  v4 := Tryz.zeroValue4
  t5 := Tryz.underlying5
  a5 := Tryz.isAgg5
  z5 := Tryz.sizeOf5
  v5 := Tryz.zeroValue5
  t9 := Tryz.underlying9
  a9 := Tryz.isAgg9
  z9 := Tryz.sizeOf9
  v9 := Tryz.zeroValue9
  t22 := Tryz.underlying38
  a22 := Tryz.isAgg38
  z22 := Tryz.sizeOf38
  v22 := Tryz.zeroValue38
  t25 := Tryz.underlying69
  a25 := Tryz.isAgg69
  z25 := Tryz.sizeOf69
  v25 := Tryz.zeroValue69
  t39 := Tryz.underlying93
  a39 := Tryz.isAgg93
  z39 := Tryz.sizeOf93
  v39 := Tryz.zeroValue93
  t45 := Tryz.underlying102
  a45 := Tryz.isAgg102
  z45 := Tryz.sizeOf102
  v45 := Tryz.zeroValue102
  t46 := Tryz.underlying103
  a46 := Tryz.isAgg103
  z46 := Tryz.sizeOf103
  v46 := Tryz.zeroValue103
  t50 := Tryz.underlying54
  a50 := Tryz.isAgg54
  z50 := Tryz.sizeOf54
  v50 := Tryz.zeroValue54
  t53 := Tryz.underlying81
  a53 := Tryz.isAgg81
  z53 := Tryz.sizeOf81
  v53 := Tryz.zeroValue81
  t55 := Tryz.underlying110
  a55 := Tryz.isAgg110
  z55 := Tryz.sizeOf110
  v55 := Tryz.zeroValue110
  t66 := Tryz.underlying124
  a66 := Tryz.isAgg124
  z66 := Tryz.sizeOf124
  v66 := Tryz.zeroValue124
  t70 := Tryz.underlying128
  a70 := Tryz.isAgg128
  z70 := Tryz.sizeOf128
  v70 := Tryz.zeroValue128
  t76 := Tryz.underlying137
  a76 := Tryz.isAgg137
  z76 := Tryz.sizeOf137
  v76 := Tryz.zeroValue137
  t77 := Tryz.underlying138
  a77 := Tryz.isAgg138
  z77 := Tryz.sizeOf138
  v77 := Tryz.zeroValue138 }
end Go.Proofs

/- The index's arcs, sorted. -/
namespace Go.Proofs.YthomnpgpbhpojaaGreat.Cd
open Go Go.RowKit Go.Shelf Go.Lib Go.Sort Go.Proofs.YthomnpgpbhpojaaGreat.Mem Go.Proofs.YthomnpgpbhpojaaGreat.Lw
set_option linter.unusedSimpArgs false
set_option linter.unusedVariables false

def alt (x y : Int × Int) : Prop := x.1 < y.1 ∨ (x.1 = y.1 ∧ x.2 < y.2)
theorem lt_alt (x y : Int × Int) : ltOf acmp x y = true ↔ alt x y := by
  unfold ltOf alt
  rw [decide_eq_true_eq]
  exact acmp_lt x y
theorem lt_altF (x y : Int × Int) : ltOf acmp x y = false ↔ ¬ alt x y := by
  rw [← lt_alt]
  simp
theorem alt_total {x y : Int × Int} (h1 : ¬ alt x y) (h2 : ¬ alt y x) : x = y := by
  unfold alt at h1 h2
  obtain ⟨a, b⟩ := x
  obtain ⟨c, d⟩ := y
  simp only [Prod.mk.injEq] at *
  omega
theorem alt_trans {x y z : Int × Int} (h1 : alt x y) (h2 : alt y z) : alt x z := by
  unfold alt at *
  omega
theorem swoA : SWO (ltOf acmp) where
  irrefl x := by rw [lt_altF]; unfold alt; omega
  trans x y z h1 h2 := by rw [lt_alt] at *; exact alt_trans h1 h2
  ntrans x y z h1 h2 := by
    rw [lt_altF] at *
    unfold alt at *
    omega
theorem flat_arcs (l : List (Int × Int)) : (flatK encA 2 l.toArray).toList = arcs2 l := by
  apply List.ext_getElem?
  intro j
  rcases Nat.lt_or_ge j (l.length * 2) with h | h
  · have hj2 : j / 2 < l.length := by omega
    obtain ⟨⟨a, b⟩, hx⟩ : ∃ x, l[j / 2]? = some x := ⟨_, List.getElem?_eq_getElem hj2⟩
    obtain ⟨e1, e2⟩ := arcs2_at l (j / 2) a b hx
    have hd : l.toArray[j / 2]! = (a, b) := by simp [getElem!_def, hx]
    rw [Array.getElem?_toList]
    unfold flatK
    rw [Array.getElem?_map, Array.getElem?_range, if_pos (by simpa using h), Option.map_some, hd]
    rcases Nat.mod_two_eq_zero_or_one j with hm | hm
    · rw [hm, show j = j / 2 * 2 by omega, e1]; rfl
    · rw [hm, show j = j / 2 * 2 + 1 by omega, e2]; rfl
  · rw [List.getElem?_eq_none (by rw [Array.length_toList, size_flatK]; simpa using h), List.getElem?_eq_none (by rw [arcs2_length]; exact h)]
section
variable {w : World} {base g n c : Nat} {e : TypeId} {l : List (Int × Int)}
theorem holds_arcs (h : w.ownsRow base e 2 (.slice (some ⟨g, 0, none⟩) n c) n (arcs2 l)) : HoldsK encA 2 w g 0 l.toArray := fun j hj => by
  have hl := h.1
  rw [size_flatK] at hj
  have hj2 : j < n * 2 := by
    rw [arcs2_length] at hl
    simp at hj
    omega
  refine ⟨?_, h.frozenAt _⟩
  rw [Nat.zero_add, h.cellAt j hj2, ← flat_arcs, Array.getElem?_toList, Array.getElem?_eq_getElem (by rw [size_flatK]; exact hj)]
  simp [getElem!_def, size_flatK, hj]
  rw [Array.getElem?_eq_getElem (by rw [size_flatK]; simpa using hj)]
theorem own_sortedA {q : Nat} {os : Array Obj} {m : List (Int × Int)} (h : w.ownsRow base e 2 (.slice (some ⟨g, 0, none⟩) n c) n (arcs2 l)) (hm : m.length = l.length) :
    (sortWorldK encA 2 w g 0 q m.toArray os).ownsRow base e 2 (.slice (some ⟨g, 0, none⟩) n c) n (arcs2 m) ∧ Kpt (fun k => k = g) w (sortWorldK encA 2 w g 0 q m.toArray os) := by
  have hl := h.1
  rw [arcs2_length] at hl
  rcases h.2 with ⟨e0, _⟩ | ⟨g', cap', cur, e0, hb, hg, hn, hmx, hs, ht⟩
  · cases e0
  · cases e0
    have hlt := lt_of_block hg
    refine ⟨⟨by rw [arcs2_length]; omega, .inr ⟨g, c, putCells id 0 (flatK encA 2 m.toArray) cur, rfl, hb, ?_, hn, hmx, by simpa [putCells] using hs, ?_⟩⟩, ?_⟩
    · unfold sortWorldK putRowK grow
      rw [Array.getElem?_append_left (by simpa [putRow, mapBlock, Sort.ahead] using hlt)]
      simp [putRow, mapBlock, Sort.ahead, Array.getElem?_modify, hg, onCells]
    · have hfs : (flatK encA 2 m.toArray).size = n * 2 := by rw [size_flatK]; simp; omega
      apply List.ext_getElem?
      intro j
      rw [List.getElem?_take, Array.getElem?_toList]
      rcases Nat.lt_or_ge j (n * 2) with hj | hj
      · have hjc : j < cur.size := by rw [hs]; exact Nat.lt_of_lt_of_le hj (Nat.mul_le_mul_right _ hn)
        rw [if_pos hj]
        simp only [putCells, Array.getElem?_mapIdx, Array.getElem?_eq_getElem hjc, Option.map_some]
        rw [if_pos (by omega), ← flat_arcs, Array.getElem?_toList, Array.getElem?_eq_getElem (by omega)]
        simp [getElem!_def, hfs, hj]
      · rw [if_neg (by omega), List.getElem?_eq_none (by rw [arcs2_length]; omega)]
    · unfold sortWorldK putRowK grow
      refine ⟨rfl, rfl, rfl, by simp [putRow, mapBlock, Sort.ahead], fun k hk hne => ?_⟩
      rw [Array.getElem?_append_left (by simpa [putRow, mapBlock, Sort.ahead] using hk)]
      have hne : g ≠ k := fun e => hne e.symm
      simp [putRow, mapBlock, Sort.ahead, Array.getElem?_modify, hne]
end
theorem sortArcs_calls (w : World) (base g n c : Nat) (l : List (Int × Int)) (h : w.ownsRow base 41 2 (.slice (some ⟨g, 0, none⟩) n c) n (arcs2 l)) (hn : n ≤ 1000) :
    Calls Tryz.prog 30 #[.slice (some ⟨g, 0, none⟩) n c, .func (.func 31) #[] #[]] w fun e w' => e = .returned (.tuple #[]) ∧ ∃ m : List (Int × Int), m.length = l.length ∧ (∀ x, x ∈ m ↔ x ∈ l) ∧ (m.Pairwise fun x y => alt x y ∨ x = y) ∧ w'.ownsRow base 41 2 (.slice (some ⟨g, 0, none⟩) n c) n (arcs2 m) ∧ Kpt (fun k => k = g) w w' := by
  have hl : l.length = n := by have := h.1; rw [arcs2_length] at this; omega
  have eg : ∀ args w, (callFunc 31 args).run Tryz.prog w = .ok (.enter 31 args) w := enters_of Tryz.func31 (by kernel_rfl) rfl
  have hlt : g < w.heap.size := (h.lt g rfl).2
  have hcon := AnyQ.slices_SortFunc_total Tryz.sortArc 2 Tryz.isAgg41 Tryz.sizeOf41 encA (fun _ => rfl) (fun x v hv => by simp [encA] at hv; rcases hv with rfl | rfl <;> rfl) acmp swoA 31 #[] g 0 c l.toArray w eg (fun _ _ _ _ x y => acmp_calls x.1 x.2 y.1 y.2 _) (holds_arcs h) hlt (by simp; omega) (fun x y h1 h2 => alt_total ((lt_altF x y).1 h1) ((lt_altF y x).1 h2))
  change Calls Tryz.prog 30 _ _ _ at hcon
  have hsz : l.toArray.size = n := by simp [hl]
  rw [hsz] at hcon
  refine hcon.mono ?_
  rintro e w' ⟨rfl, q, os, rfl⟩
  have hp := List.mergeSort_perm l.toArray.toList fun x y => !(ltOf acmp) y x
  have hlen : (l.toArray.toList.mergeSort fun x y => !(ltOf acmp) y x).length = l.length := by rw [hp.length_eq]
  obtain ⟨ho, hk⟩ := own_sortedA (q := q) (os := os) h hlen
  refine ⟨rfl, _, hlen, fun x => by simp, ?_, ho, hk⟩
  have hs := List.pairwise_mergeSort (le := fun x y => !(ltOf acmp) y x) (fun a b d h1 h2 => by
    simp only [Bool.not_eq_true'] at *
    exact swoA.ntrans _ _ _ h2 h1) (fun a b => by
    simp only [Bool.or_eq_true, Bool.not_eq_true', lt_altF]
    unfold alt
    omega) l.toArray.toList
  refine hs.imp fun {x y} hxy => ?_
  simp only [Bool.not_eq_true', lt_altF] at hxy
  by_cases hx : alt x y
  · exact .inl hx
  · exact .inr (alt_total hx hxy)
theorem sortArcs_none (w : World) (p : Option Addr) (c : Nat) (fv : Value) : Calls Tryz.prog 30 #[.slice p 0 c, fv] w fun e w' => e = .returned (.tuple #[]) ∧ w' = w :=
  AnyF.slices_SortFunc_none Tryz.sortArc p c fv w
end Go.Proofs.YthomnpgpbhpojaaGreat.Cd
