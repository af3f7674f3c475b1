/- slices.Equal of lists of numbers. -/
import Derived.Test.YtgihncjllelonaaHu5
import Derived.Test.YtgihncjllelonaaHu22
import Derived.Test.YtgihncjllelonaaHu12
import Derived.Shelf.SlSortCmp.Insertion
import Derived.Shelf.SlLaysF
import Derived.Ground.SlsfProg
import Derived.Test.YtgihncjllelonaaProg
import Derived.Shelf.SlSortCmp.Whole1
namespace Go.Proofs.Ytgihncjllelonaa.Ce
open Go Go.RowKit Go.MapKept Go.Proofs.Ytgihncjllelonaa.Mem Go.Proofs.Ytgihncjllelonaa.Sl Go.Proofs.Ytgihncjllelonaa.Lw Go.Proofs.Ytgihncjllelonaa.Tb Go.Proofs.YtgihncjllelonaaW.PrintWords Go.Proofs.YtgihncjllelonaaW.PrintLast
attribute [local go_sem ↓] Go.wp_at_zero Go.wp_at_succ
set_option linter.unusedSimpArgs false
set_option linter.unusedVariables false
def tb26_6.T6 : Bool × List (List Nat × List Nat) := (true, [([], []), ([], []), ([0, 1], [0, 1]), ([2], [2]), ([], []), ([], []), ([4, 5], [4, 5]), ([6], [6]), ([3, 7], [3, 7])])
def tb26_6.B6 : List Nat := [0, 0, 3, 7, 0, 0, 48, 112, 255]
theorem tb26_6.tab6 : rtab .any (opsOf Try.f26 6) = tb26_6.T6 := by kernel_rfl
theorem tb26_6.bits6 : waitsOk tb26_6.T6.2 tb26_6.B6 = true := by kernel_rfl
set_option maxHeartbeats 8000000 in
set_option maxRecDepth 100000 in
theorem equal_calls (w : World) (A B : Option Addr) (ca cb : Nat) (l r : List Int) (hl : RdI w A l) (hr : RdI w B r) (hll : l.length ≤ 1000000000000000) : Calls Try.prog 26 #[.slice A l.length ca, .slice B r.length cb] w fun e w' => e = .returned (.bool (decide (l = r))) ∧ Below w.heap.size w w' := by
  obtain ⟨n, hn⟩ : ∃ n, l.length = n := ⟨_, rfl⟩
  obtain ⟨m, hm⟩ : ∃ n, r.length = n := ⟨_, rfl⟩
  obtain ⟨ans, hans⟩ : ∃ a, decide (l = r) = a := ⟨_, rfl⟩
  rw [hn] at hll
  rw [hn, hm, hans]
  have HX := Lib.hid (And.intro hl (And.intro hr (And.intro hn (And.intro hm hans))))
  clear hl hr hn hm hans
  by_cases hnm : n = m
  · subst hnm
    have hq : ((n : Int) != (n : Int)) = false := by simp
    go_enter Try.func26, Try.ntmps26
    go_wp2_with fail
    go_loopg [13] (n + 1) (fun kq v13 w' => ∃ j : Nat, v13 = .int .i64 (j : Int) ∧ Hid (j + kq = n + 1 ∧ j ≤ n ∧ Below w.heap.size w w' ∧ l.take j = r.take j))
    case atStart => exact ⟨0, rfl, Lib.hid ⟨by omega, by omega, Below.refl _ _, rfl⟩⟩
    case round =>
      obtain ⟨j, rfl, hJ⟩ := hrel
      obtain ⟨hjk, hjn, hb, hS⟩ := hJ.out
      clear hJ
      by_cases hj : j < n
      · obtain ⟨k1, rfl⟩ : ∃ k1, gk = k1 + 1 := ⟨gk - 1, by omega⟩
        obtain ⟨x, hx⟩ : ∃ x, l[j]? = some x := ⟨_, List.getElem?_eq_getElem (by have := HX.out.2.2.1; omega)⟩
        obtain ⟨y, hy⟩ : ∃ x, r[j]? = some x := ⟨_, List.getElem?_eq_getElem (by have := HX.out.2.2.2.1; omega)⟩
        have hbd : Below wr.heap.size wr wr.drew := (Below.refl _ _).drew
        have hb2 := hb.trans (hbd.mono hb.size)
        obtain ⟨ga, hga, cx⟩ := (HX.out.1.below hb2) j x hx
        subst hga
        obtain ⟨gb, hgb, cy⟩ := (HX.out.2.1.below hb2) j y hy
        subst hgb
        have j0 : (0 : Int) ≤ (j : Int) := by omega
        have j1 : (j : Int) < (n : Int) := by omega
        have j2 : j + 1 ≤ 1000000000000000 := by omega
        have HC0 := Lib.hid (And.intro cx cy)
        have HS := Lib.hid (And.intro hjk (And.intro hS (And.intro hx (And.intro hy hb2))))
        clear cx cy hb hbd hb2 hx hy hS hjk hj
        go_upto_region 6 with (fail)
        obtain ⟨wd, hwd⟩ : ∃ wd, wr.drew = wd := ⟨_, rfl⟩
        have hc := HC0.out
        rw [hwd] at hc
        have HC := Lib.hid hc
        have hbe := HS.out.2.2.2.2
        rw [hwd] at hbe
        have HBE := Lib.hid hbe
        clear HC0 hc hbe
        by_cases hxy : x = y
        · have hq2 : ((x : Int) != y) = false := by simpa using hxy
          have HN := Lib.hid (show j + 1 + k1 = n + 1 ∧ j + 1 ≤ n ∧ Below w.heap.size w wd ∧ l.take (j + 1) = r.take (j + 1) from ⟨by have := HS.out.1; omega, by omega, HBE.out, by rw [List.take_add_one, List.take_add_one, HS.out.2.1, HS.out.2.2.1, HS.out.2.2.2.1, hxy]⟩)
          clear hxy
          refine start_ (n := 9) (S := fun w' => w'.cell? ⟨ga, j, none⟩ = some (.int .i64 x) ∧ w'.cell? ⟨gb, j, none⟩ = some (.int .i64 y)) (ds := []) (bA 9 0) (by kernel_rfl) rfl rfl ⟨(by rw [hwd]; exact HC.out.1), (by rw [hwd]; exact HC.out.2)⟩ (fun hHeld => ?_)
          rw [hwd] at hHeld ⊢
          refine with_tabW tb26_6.tab6 tb26_6.bits6 (fun HT_ HW_ => ?_)
          refine pw_ 0 16 (bA 9 1) HT_.out ?_
          refine pw_ 1 17 (bA 9 3) HT_.out ?_
          refine pw_ 2 18 (bA 9 7) HT_.out ?_
          refine pw_ 4 20 (bA 9 23) HT_.out ?_
          refine pw_ 5 21 (bA 9 55) HT_.out ?_
          refine pw_ 6 22 (bA 9 119) HT_.out ?_
          refine tw_ 3 19 (bA 9 127) HT_.out HW_.out hHeld (hv := by rintro w' ⟨s0, s1⟩; go_simp; with_reducible rfl) (h := ?_)
          refine tw_ 7 23 (bA 9 255) HT_.out HW_.out hHeld (hv := by rintro w' ⟨s0, s1⟩; go_simp; with_reducible rfl) (h := ?_)
          refine pw_ 8 24 (bA 9 511) HT_.out ?_
          refine done_ (done_of HT_.out (by kernel_rfl)) ?_
          clear hHeld HT_ HW_; clear HS HBE HC hwd
          go_wp2
          go_roundg k1
          case measure => omega
          case rel => exact ⟨j + 1, by go_num, HN⟩
        · have hq2 : ((x : Int) != y) = true := by simpa using hxy
          have HN := Lib.hid (show false = ans from by
            rw [← HX.out.2.2.2.2]
            symm
            apply decide_eq_false
            intro h
            have h1 := HS.out.2.2.1
            rw [h, HS.out.2.2.2.1] at h1
            exact hxy (Option.some.inj h1).symm)
          clear hxy
          refine start_ (n := 9) (S := fun w' => w'.cell? ⟨ga, j, none⟩ = some (.int .i64 x) ∧ w'.cell? ⟨gb, j, none⟩ = some (.int .i64 y)) (ds := []) (bA 9 0) (by kernel_rfl) rfl rfl ⟨(by rw [hwd]; exact HC.out.1), (by rw [hwd]; exact HC.out.2)⟩ (fun hHeld => ?_)
          rw [hwd] at hHeld ⊢
          refine with_tabW tb26_6.tab6 tb26_6.bits6 (fun HT_ HW_ => ?_)
          refine pw_ 0 16 (bA 9 1) HT_.out ?_
          refine pw_ 1 17 (bA 9 3) HT_.out ?_
          refine pw_ 2 18 (bA 9 7) HT_.out ?_
          refine pw_ 4 20 (bA 9 23) HT_.out ?_
          refine pw_ 5 21 (bA 9 55) HT_.out ?_
          refine pw_ 6 22 (bA 9 119) HT_.out ?_
          refine tw_ 3 19 (bA 9 127) HT_.out HW_.out hHeld (hv := by rintro w' ⟨s0, s1⟩; go_simp; with_reducible rfl) (h := ?_)
          refine tw_ 7 23 (bA 9 255) HT_.out HW_.out hHeld (hv := by rintro w' ⟨s0, s1⟩; go_simp; with_reducible rfl) (h := ?_)
          refine pw_ 8 24 (bA 9 511) HT_.out ?_
          refine done_ (done_of HT_.out (by kernel_rfl)) ?_
          clear hHeld HT_ HW_; clear HS HC hwd
          go_wp2
          go_ret
          exact ⟨by rw [← HN.out]; rfl, HBE.out⟩
      · obtain rfl : j = n := by omega
        have jn : ¬ ((j : Int) < (j : Int)) := by omega
        rw [List.take_of_length_le (by have := HX.out.2.2.1; omega), List.take_of_length_le (by have := HX.out.2.2.2.1; omega)] at hS
        have HN := Lib.hid (And.intro (show true = ans from by rw [← HX.out.2.2.2.2, decide_eq_true hS]) hb)
        clear hS hb hjk hj hjn
        go_wp2
        go_ret
        exact ⟨by rw [← HN.out.1]; rfl, HN.out.2⟩
  · have hq : ((n : Int) != (m : Int)) = true := by simpa using (show ¬ ((n : Int) = (m : Int)) by omega)
    have HN := Lib.hid (show false = ans from by
      rw [← HX.out.2.2.2.2]
      symm
      apply decide_eq_false
      intro h
      have h1 := HX.out.2.2.1
      rw [h] at h1
      exact hnm (h1.symm.trans HX.out.2.2.2.1))
    clear hnm
    go_enter Try.func26, Try.ntmps26
    go_wp2
    go_ret
    exact ⟨by rw [← HN.out]; rfl, Below.refl _ _⟩
end Go.Proofs.Ytgihncjllelonaa.Ce

/- slices.EqualFunc of lists of lists. -/
namespace Go.Proofs.Ytgihncjllelonaa.Ce
open Go Go.RowKit Go.MapKept Go.Proofs.Ytgihncjllelonaa.Mem Go.Proofs.Ytgihncjllelonaa.Sl Go.Proofs.Ytgihncjllelonaa.Lw Go.Proofs.Ytgihncjllelonaa.Tb Go.Proofs.YtgihncjllelonaaW.PrintWords Go.Proofs.YtgihncjllelonaaW.PrintLast
attribute [local go_sem ↓] Go.wp_at_zero Go.wp_at_succ
set_option linter.unusedSimpArgs false
set_option linter.unusedVariables false
set_option maxHeartbeats 8000000 in
set_option maxRecDepth 100000 in
theorem equalfunc_calls (w : World) (A B : Option Addr) (ca cb : Nat) (ls rs : List (List Int)) (hl : RdL w A ls) (hr : RdL w B rs) (hll : ls.length ≤ 1000000000000000) (hlb : ∀ l ∈ ls, l.length ≤ 1000000000000000) : Calls Try.prog 25 #[.slice A ls.length ca, .slice B rs.length cb, .func (.func 26) #[] #[]] w fun e w' => e = .returned (.bool (decide (ls = rs))) ∧ Below w.heap.size w w' := by
  obtain ⟨n, hn⟩ : ∃ n, ls.length = n := ⟨_, rfl⟩
  obtain ⟨m, hm⟩ : ∃ n, rs.length = n := ⟨_, rfl⟩
  obtain ⟨ans, hans⟩ : ∃ a, decide (ls = rs) = a := ⟨_, rfl⟩
  rw [hn] at hll
  rw [hn, hm, hans]
  have HX := Lib.hid (And.intro hl (And.intro hr (And.intro hn (And.intro hm (And.intro hans hlb)))))
  clear hl hr hn hm hans hlb
  by_cases hnm : n = m
  · subst hnm
    have hq : ((n : Int) != (n : Int)) = false := by simp
    go_enter Try.func25, Try.ntmps25
    go_wp2_with fail
    go_loopg [17] (n + 1) (fun kq v17 w' => ∃ j : Nat, v17 = .int .i64 (j : Int) ∧ Hid (j + kq = n + 1 ∧ j ≤ n ∧ Below w.heap.size w w' ∧ ls.take j = rs.take j))
    case atStart => exact ⟨0, rfl, Lib.hid ⟨by omega, by omega, Below.refl _ _, rfl⟩⟩
    case round =>
      obtain ⟨j, rfl, hJ⟩ := hrel
      obtain ⟨hjk, hjn, hb, hS⟩ := hJ.out
      clear hJ
      by_cases hj : j < n
      · obtain ⟨k1, rfl⟩ : ∃ k1, gk = k1 + 1 := ⟨gk - 1, by omega⟩
        obtain ⟨x, hx⟩ : ∃ x, ls[j]? = some x := ⟨_, List.getElem?_eq_getElem (by have := HX.out.2.2.1; omega)⟩
        obtain ⟨y, hy⟩ : ∃ x, rs[j]? = some x := ⟨_, List.getElem?_eq_getElem (by have := HX.out.2.2.2.1; omega)⟩
        obtain ⟨ga, Ax, cax, hga, cx, hrx⟩ := (HX.out.1.below hb) j x hx
        subst hga
        obtain ⟨gb, Ay, cay, hgb, cy, hry⟩ := (HX.out.2.1.below hb) j y hy
        subst hgb
        have j0 : (0 : Int) ≤ (j : Int) := by omega
        have j1 : (j : Int) < (n : Int) := by omega
        have j2 : j + 1 ≤ 1000000000000000 := by omega
        have heq := equal_calls wr Ax Ay cax cay x y hrx hry (HX.out.2.2.2.2.2 x (List.mem_of_getElem? hx))
        obtain ⟨nx, hnx⟩ : ∃ k, x.length = k := ⟨_, rfl⟩
        obtain ⟨ny, hny⟩ : ∃ k, y.length = k := ⟨_, rfl⟩
        obtain ⟨q, hqq⟩ : ∃ k, decide (x = y) = k := ⟨_, rfl⟩
        rw [hnx, hny, hqq] at heq
        rw [hnx] at cx
        rw [hny] at cy
        have HE := Lib.hid heq
        have HS := Lib.hid (And.intro hjk (And.intro hS (And.intro hx (And.intro hy (And.intro hb hqq)))))
        clear hb hx hy hS hjk hj heq hnx hny hqq hrx hry
        go_wp2_with fail
        refine HE.out.mono ?_
        clear HE cx cy
        rintro e w1 ⟨rfl, b1⟩
        have HB := Lib.hid (HS.out.2.2.2.2.1.trans (b1.mono HS.out.2.2.2.2.1.size))
        clear b1
        cases q with
        | true =>
          have HN := Lib.hid (show j + 1 + k1 = n + 1 ∧ j + 1 ≤ n ∧ Below w.heap.size w w1 ∧ ls.take (j + 1) = rs.take (j + 1) from ⟨by have := HS.out.1; omega, by omega, HB.out, by rw [List.take_add_one, List.take_add_one, HS.out.2.1, HS.out.2.2.1, HS.out.2.2.2.1, of_decide_eq_true HS.out.2.2.2.2.2]⟩)
          clear HS HB
          go_wp2
          go_roundg k1
          case measure => omega
          case rel => exact ⟨j + 1, by go_num, HN⟩
        | false =>
          have HN := Lib.hid (show false = ans from by
            rw [← HX.out.2.2.2.2.1]
            symm
            apply decide_eq_false
            intro h
            have h1 := HS.out.2.2.1
            rw [h, HS.out.2.2.2.1] at h1
            exact of_decide_eq_false HS.out.2.2.2.2.2 (Option.some.inj h1).symm)
          clear HS
          go_wp2
          go_ret
          exact ⟨by rw [← HN.out]; rfl, HB.out⟩
      · obtain rfl : j = n := by omega
        have jn : ¬ ((j : Int) < (j : Int)) := by omega
        rw [List.take_of_length_le (by have := HX.out.2.2.1; omega), List.take_of_length_le (by have := HX.out.2.2.2.1; omega)] at hS
        have HN := Lib.hid (And.intro (show true = ans from by rw [← HX.out.2.2.2.2.1, decide_eq_true hS]) hb)
        clear hS hb hjk hj hjn
        go_wp2
        go_ret
        exact ⟨by rw [← HN.out.1]; rfl, HN.out.2⟩
  · have hq : ((n : Int) != (m : Int)) = true := by simpa using (show ¬ ((n : Int) = (m : Int)) by omega)
    have HN := Lib.hid (show false = ans from by
      rw [← HX.out.2.2.2.2.1]
      symm
      apply decide_eq_false
      intro h
      have h1 := HX.out.2.2.1
      rw [h] at h1
      exact hnm (h1.symm.trans HX.out.2.2.2.1))
    clear hnm
    go_enter Try.func25, Try.ntmps25
    go_wp2
    go_ret
    exact ⟨by rw [← HN.out]; rfl, Below.refl _ _⟩
end Go.Proofs.Ytgihncjllelonaa.Ce

/- The references' Sorted, walked. -/
namespace Go.Proofs.Ytgihncjllelonaa.Lw
open Go Go.RowKit Go.Proofs.Ytgihncjllelonaa.Mem Go.Proofs.Ytgihncjllelonaa.Sl Go.Proofs.Ytgihncjllelonaa.Scc Go.Proofs.Ytgihncjllelonaa.Tj Go.Proofs.YtgihncjllelonaaW.PrintWords Go.Proofs.YtgihncjllelonaaW.PrintLast
attribute [local go_sem ↓] Go.wp_at_zero Go.wp_at_succ
set_option linter.unusedSimpArgs false
set_option linter.unusedVariables false

def RdO (w : World) (A : Option Addr) (l : List Int) : Prop := ∀ (j : Nat) (x : Int), l[j]? = some x → ∃ b off, A = some ⟨b, off, none⟩ ∧ w.cell? ⟨b, off + j, none⟩ = some (.int .i64 x)
theorem RdO.below {w w' : World} {A : Option Addr} {l : List Int} (h : RdO w A l) (hb : Below w.heap.size w w') : RdO w' A l := fun j x hx => by
  obtain ⟨b, off, h1, h2⟩ := h j x hx
  exact ⟨b, off, h1, (hb.cell (World.block_lt_of_cell? w _ h2)).trans h2⟩
theorem RdI.o {w : World} {A : Option Addr} {l : List Int} (h : RdI w A l) : RdO w A l := fun j x hx => by
  obtain ⟨b, h1, h2⟩ := h j x hx
  exact ⟨b, 0, h1, by rw [Nat.zero_add]; exact h2⟩

end Go.Proofs.Ytgihncjllelonaa.Lw

/- slices.Clone and slices.Sort of long lists, at addresses with an offset. -/
namespace Go.Proofs.Ytgihncjllelonaa.Ce
open Go Go.RowKit Go.MapKept Go.Proofs.Ytgihncjllelonaa.Mem Go.Proofs.Ytgihncjllelonaa.Sl Go.Proofs.Ytgihncjllelonaa.Lw Go.Proofs.Ytgihncjllelonaa.Tb Go.Proofs.YtgihncjllelonaaW.PrintWords Go.Proofs.YtgihncjllelonaaW.PrintLast
set_option linter.unusedSimpArgs false
set_option linter.unusedVariables false

theorem cloneO_calls (w : World) (A : Option Addr) (c : Nat) (l : List Int) (h : RdO w A l) (hl : l.length ≤ 17592186044416) :
    Calls Try.prog 21 #[.slice A l.length c] w fun e w' => ∃ v', e = .returned v' ∧ w'.ownsRow w.heap.size 3 1 v' l.length (ints l) ∧ Below w.heap.size w w' := by
  cases l with
  | nil =>
    cases A with
    | none =>
      refine (Try.slices_Clone_int_nil 0 c w).mono ?_
      rintro e w' ⟨rfl, rfl⟩
      exact ⟨_, rfl, World.ownsRow_nil _ _ _ _, Below.refl _ _⟩
    | some a =>
      refine (Try.slices_Clone_int_zero a c w).mono ?_
      rintro e w' ⟨v', rfl, h1, _, h2⟩
      exact ⟨_, rfl, h1, h2⟩
  | cons x0 r =>
    obtain ⟨b, off, h1, _⟩ := h 0 x0 rfl
    subst h1
    refine (Try.slices_Clone_int b off (x0 :: r).length c (x0 :: r) w (Nat.le_refl _) (by omega) (fun j hj => ?_)).mono ?_
    · obtain ⟨b', off', h2, h3⟩ := h j ((x0 :: r).getD j 0) (by rw [List.getElem?_eq_getElem hj, List.getD_eq_getElem?_getD, List.getElem?_eq_getElem hj]; rfl)
      cases h2
      exact h3
    · rintro e w' ⟨v', rfl, h1, _, h2⟩
      rw [List.take_length] at h1
      exact ⟨_, rfl, h1, h2⟩
theorem sortB_calls (w : World) (base : Nat) (v : Value) (l : List Int) (h : w.ownsRow base 3 1 v l.length (ints l)) (hl : l.length ≤ 17592186044416) :
    Calls Try.prog 22 #[v] w fun e w' => e = .returned (.tuple #[]) ∧ w'.ownsRow base 3 1 v l.length (ints (sorted l)) ∧ w.grownBy w' v.ownBlock := by
  have h' := h
  rcases h.2 with ⟨rfl, h0⟩ | ⟨g, cap, cur, rfl, hbase, hb, h1, h2, h3, h4⟩
  · obtain rfl : l = [] := List.length_eq_zero_iff.1 h0
    refine (Try.slices_Sort_int_none none 0 w).mono ?_
    rintro e w' ⟨rfl, rfl⟩
    exact ⟨rfl, by simpa [sorted] using h', ⟨rfl, rfl, rfl, Nat.le_refl _, fun _ _ _ => rfl⟩⟩
  · refine (Try.slices_Sort_int g 0 cap l w (holds_of_blockI hb (by simpa [ints] using h4)) (Array.getElem?_eq_some_iff.1 hb).1 (by omega)).mono ?_
    rintro e w' ⟨rfl, n, os, rfl⟩
    exact ⟨rfl, ownsRow_sortedI (by simp) hbase hb h1 h2 h3, grownBy_sortedI _⟩
end Go.Proofs.Ytgihncjllelonaa.Ce

/- cert.Parts: a list of own lists while it grows. -/
namespace Go.Proofs.Ytgihncjllelonaa.Ce
open Go Go.RowKit Go.MapKept Go.Proofs.Ytgihncjllelonaa.Mem Go.Proofs.Ytgihncjllelonaa.Sl Go.Proofs.Ytgihncjllelonaa.Lw Go.Proofs.Ytgihncjllelonaa.Tb Go.Proofs.YtgihncjllelonaaW.PrintWords Go.Proofs.YtgihncjllelonaaW.PrintLast
set_option linter.unusedSimpArgs false
set_option linter.unusedVariables false

theorem own_apart {W : World} {B B' s s' n n' : Nat} {T T' : TypeId} {v v' : Value} {xs xs' : List Value} (h : W.ownsRow B T s v n xs) (h' : W.ownsRow B' T' s' v' n' xs') (hT : T ≠ T') {k : Nat} (hk : v.ownBlock = some k) : v'.ownBlock ≠ some k := fun hk' => by
  rcases h.2 with ⟨rfl, _⟩ | ⟨g, cap, cur, rfl, _, e3, _⟩
  · cases hk
  · rcases h'.2 with ⟨rfl, _⟩ | ⟨g', cap', cur', rfl, _, e3', _⟩
    · cases hk'
    · cases hk
      cases hk'
      rw [e3] at e3'
      cases e3'
      exact hT rfl
structure Gr (w W : World) (v9 : Value) (vals : List Value) (ls : List (List Int)) : Prop where
  o : W.ownsRow w.heap.size 22 1 v9 vals.length vals
  n : vals.length = ls.length
  r : ∀ (i : Nat) (v : Value) (l : List Int), vals[i]? = some v → ls[i]? = some l → W.ownsRow w.heap.size 3 1 v l.length (ints l)
  b : Below w.heap.size w W
section
variable {w W W' : World} {v9 : Value} {vals : List Value} {ls : List (List Int)}
theorem Gr.start : Gr w w (.slice none 0 0) [] [] := ⟨World.ownsRow_nil _ _ _ _, rfl, fun i v l h => by simp at h, Below.refl _ _⟩
theorem Gr.below (h : Gr w W v9 vals ls) (hb : Below W.heap.size W W') : Gr w W' v9 vals ls :=
  ⟨Lw.own_below h.o hb, h.n, fun i v l h1 h2 => Lw.own_below (h.r i v l h1 h2) hb, h.b.trans (hb.mono h.b.size)⟩
theorem Gr.beyond {W0 : World} {row : Option Nat} (h : Gr w W v9 vals ls) (h0 : Gr w W0 v9 vals ls) (hg : W.grownBy W' row) (hr : ∀ k, row = some k → W0.heap.size ≤ k) : Gr w W' v9 vals ls := by
  refine ⟨h.o.kept hg ?_, h.n, fun i v l h1 h2 => (h.r i v l h1 h2).kept hg ?_, h.b.grown hg h.b.size fun k hk => Nat.le_trans h0.b.size (hr k hk)⟩
  · cases hv : v9.ownBlock with
    | none => exact .inl rfl
    | some k => exact .inr fun e => by have := hr k e.symm; have := (h0.o.lt k hv).2; omega
  · cases hv : v.ownBlock with
    | none => exact .inl rfl
    | some k => exact .inr fun e => by have := hr k e.symm; have := ((h0.r i v l h1 h2).lt k hv).2; omega
theorem Gr.push {v' x : Value} {l : List Int} (h : Gr w W v9 vals ls) (hx : W.ownsRow w.heap.size 3 1 x l.length (ints l)) (hg : W.grownBy W' v9.ownBlock) (ho : W'.ownsRow w.heap.size 22 1 v' (vals.length + 1) (vals ++ [x])) : Gr w W' v' (vals ++ [x]) (ls ++ [l]) := by
  have hk : ∀ {y : Value} {m : List Int}, W.ownsRow w.heap.size 3 1 y m.length (ints m) → W'.ownsRow w.heap.size 3 1 y m.length (ints m) := fun {y m} hy => hy.kept hg (by
    cases hv : y.ownBlock with
    | none => exact .inl rfl
    | some k => exact .inr fun e => own_apart h.o hy (by decide) e.symm hv)
  refine ⟨by rw [List.length_append, List.length_singleton]; exact ho, by rw [List.length_append, List.length_append, h.n]; rfl, fun i v m h1 h2 => ?_, h.b.grown hg h.b.size fun k hk => (h.o.lt k hk).1⟩
  by_cases hi : i < vals.length
  · rw [List.getElem?_append_left hi] at h1
    rw [List.getElem?_append_left (by rw [← h.n]; exact hi)] at h2
    exact hk (h.r i v m h1 h2)
  · rw [List.getElem?_append_right (by omega)] at h1
    rw [List.getElem?_append_right (by rw [← h.n]; omega), ← h.n] at h2
    obtain ⟨j, hj⟩ : ∃ j, i - vals.length = j := ⟨_, rfl⟩
    rw [hj] at h1 h2
    cases j with
    | succ j => simp at h1
    | zero =>
      cases h1
      cases h2
      exact hk hx
end
end Go.Proofs.Ytgihncjllelonaa.Ce

/- Plain: the order of lists; lists of lists in that order. -/
namespace Go.Proofs.Ytgihncjllelonaa.Ce
open Go Go.Shelf Go.Sort
set_option linter.unusedVariables false

theorem cmpI_swap (a b : Int) : cmpI b a = - cmpI a b := by
  unfold cmpI
  split <;> split <;> first | omega | (split <;> omega)
theorem cmpL_swap : ∀ a b : List Int, cmpL b a = - cmpL a b
  | [], [] => rfl
  | [], _ :: _ => rfl
  | _ :: _, [] => rfl
  | a :: x, b :: y => by
    have h := cmpL_swap x y
    have h2 := cmpI_swap a b
    rw [cmpL, cmpL]
    by_cases hc : cmpI a b = 0
    · rw [if_pos (by omega), if_pos hc, h]
    · rw [if_neg (by omega), if_neg hc, h2]
theorem cmpL_zero : ∀ {a b : List Int}, cmpL a b = 0 → a = b
  | [], [], _ => rfl
  | [], _ :: _, h => by rw [cmpL] at h; cases h
  | _ :: _, [], h => by rw [cmpL] at h; cases h
  | a :: x, b :: y, h => by
    rw [cmpL] at h
    by_cases hc : cmpI a b = 0
    · rw [if_pos hc] at h
      rw [cmpI_zero.1 hc, cmpL_zero h]
    · rw [if_neg hc] at h
      exact absurd h hc
theorem cmpL_self (a : List Int) : cmpL a a = 0 := by
  have := cmpL_swap a a
  omega
theorem cmpL_trans : ∀ (a b c : List Int), cmpL a b ≤ 0 → cmpL b c ≤ 0 → cmpL a c ≤ 0
  | [], _, [], _, _ => by rw [cmpL]; decide
  | [], _, _ :: _, _, _ => by rw [cmpL]; decide
  | _ :: _, [], _, h, _ => by rw [cmpL] at h; omega
  | _ :: _, _ :: _, [], _, h => by rw [cmpL] at h; omega
  | a :: x, b :: y, c :: z, h1, h2 => by
    have ih := cmpL_trans x y z
    rw [cmpL] at h1 h2 ⊢
    have q : ∀ u v : Int, cmpI u v = if u < v then -1 else if v < u then 1 else 0 := fun u v => rfl
    rw [q] at h1 h2 ⊢
    rcases Int.lt_trichotomy a b with e1 | e1 | e1
    · rcases Int.lt_trichotomy b c with e2 | e2 | e2
      · rw [if_pos (show a < c by omega), if_neg (by decide)]; decide
      · rw [if_pos (show a < c by omega), if_neg (by decide)]; decide
      · rw [if_neg (show ¬ b < c by omega), if_pos e2, if_neg (by decide)] at h2; omega
    · rcases Int.lt_trichotomy b c with e2 | e2 | e2
      · rw [if_pos (show a < c by omega), if_neg (by decide)]; decide
      · rw [if_neg (show ¬ a < b by omega), if_neg (show ¬ b < a by omega), if_pos rfl] at h1
        rw [if_neg (show ¬ b < c by omega), if_neg (show ¬ c < b by omega), if_pos rfl] at h2
        rw [if_neg (show ¬ a < c by omega), if_neg (show ¬ c < a by omega), if_pos rfl]
        exact ih h1 h2
      · rw [if_neg (show ¬ b < c by omega), if_pos e2, if_neg (by decide)] at h2; omega
    · rw [if_neg (show ¬ a < b by omega), if_pos e1, if_neg (by decide)] at h1; omega
theorem swoL {α : Type} (f : α → List Int) : SWO (ltOf fun x y => cmpL (f x) (f y)) where
  irrefl x := decide_eq_false (show ¬ cmpL (f x) (f x) < 0 by rw [cmpL_self]; decide)
  trans x y z h1 h2 := by
    have h1 : cmpL (f x) (f y) < 0 := of_decide_eq_true h1
    have h2 : cmpL (f y) (f z) < 0 := of_decide_eq_true h2
    have h3 := cmpL_trans (f x) (f y) (f z) (by omega) (by omega)
    have h4 := cmpL_swap (f x) (f y)
    have h5 : cmpL (f x) (f z) ≠ 0 := fun e => by
      rw [cmpL_zero e] at h4 h1
      have := cmpL_swap (f y) (f z)
      omega
    exact decide_eq_true (show cmpL (f x) (f z) < 0 by omega)
  ntrans x y z h1 h2 := by
    have h1 : ¬ cmpL (f x) (f y) < 0 := of_decide_eq_false h1
    have h2 : ¬ cmpL (f y) (f z) < 0 := of_decide_eq_false h2
    have h3 := cmpL_swap (f x) (f y)
    have h4 := cmpL_swap (f y) (f z)
    have h5 := cmpL_swap (f x) (f z)
    have := cmpL_trans (f z) (f y) (f x) (by omega) (by omega)
    exact decide_eq_false (show ¬ cmpL (f x) (f z) < 0 by omega)
theorem sorted_one : ∀ (l m : List (List Int)), l.Perm m → l.Pairwise (fun x y => cmpL x y ≤ 0) → m.Pairwise (fun x y => cmpL x y ≤ 0) → l = m
  | [], m, h, _, _ => (List.nil_perm.1 h).symm
  | a :: l, [], h, _, _ => absurd (List.perm_nil.1 h) (by simp)
  | a :: l, b :: m, h, hl, hm => by
    rw [List.pairwise_cons] at hl hm
    have hab : a = b := by
      have h1 : a ∈ b :: m := h.mem_iff.1 List.mem_cons_self
      have h2 : b ∈ a :: l := h.mem_iff.2 List.mem_cons_self
      rcases List.mem_cons.1 h1 with e | e
      · exact e
      · rcases List.mem_cons.1 h2 with e' | e'
        · exact e'.symm
        · have q1 := hm.1 a e
          have q2 := hl.1 b e'
          have q3 := cmpL_swap a b
          exact cmpL_zero (by omega)
    subst hab
    rw [sorted_one l m (h.cons_inv) hl.2 hm.2]
end Go.Proofs.Ytgihncjllelonaa.Ce

/-
  DERIVED: THE SHELF's CONTRACTS AT THIS DUMP, IN PLAIN WORDS (tools/lay-plain.mjs out of 'TrySorts.lean', which tools/lay-shelf.mjs wrote): THE SAME DECLARATIONS UNDER THE SAME NAMES: 'import', 'namespace', 'open', 'def', 'theorem' AND NOTHING ELSE: no command of the shelf's: FOR A HAND-IN. Each laying: the table of numbers ('.._ren') and one theorem, a field a fact of the dump's own or the kernel's comparison; each contract: ONE APPLICATION.
-/
namespace Go.Proofs
set_option linter.unusedSimpArgs false
set_option linter.unusedVariables false
open Go.Shelf
def Try.sortLists_ren : Go.Shelf.Ren := ⟨fun | 6 => 23 | 15 => 55 | 14 => 56 | 28 => 82 | 29 => 83 | 20 => 84 | 21 => 85 | 22 => 86 | 23 => 87 | 24 => 88 | 25 => 89 | 26 => 90 | 27 => 91 | 46 => 107 | 47 => 103 | 48 => 104 | 49 => 108 | 50 => 109 | 57 => 112 | n => n, fun | 22 => 24 | 24 => 22 | 25 => 65 | 3 => 3 | 39 => 52 | 0 => 0 | 53 => 41 | 55 => 152 | 4 => 4 | 46 => 144 | 45 => 143 | 50 => 73 | 5 => 5 | 9 => 9 | 66 => 167 | 70 => 171 | 76 => 177 | 77 => 178 | n => n, fun | n => n⟩
theorem Try.sortLists : Go.Proofs.SlLaysF.n6 Try.prog Try.sortLists_ren := {
  mixed := by kernel_rfl
  f6 := ⟨Try.f23.name, by decide, Try.func23.trans (congrArg some (by kernel_rfl))⟩
  f14 := ⟨Try.f56.name, by decide, Try.func56.trans (congrArg some (by kernel_rfl))⟩
  f15 := Try.func55.trans (congrArg some (by kernel_rfl))
  f20 := ⟨Try.f84.name, by decide, Try.func84.trans (congrArg some (by kernel_rfl))⟩
  f21 := ⟨Try.f85.name, by decide, Try.func85.trans (congrArg some (by kernel_rfl))⟩
  f22 := ⟨Try.f86.name, by decide, Try.func86.trans (congrArg some (by kernel_rfl))⟩
  f23 := ⟨Try.f87.name, by decide, Try.func87.trans (congrArg some (by kernel_rfl))⟩
  f24 := ⟨Try.f88.name, by decide, Try.func88.trans (congrArg some (by kernel_rfl))⟩
  f25 := ⟨Try.f89.name, by decide, Try.func89.trans (congrArg some (by kernel_rfl))⟩
  f26 := ⟨Try.f90.name, by decide, Try.func90.trans (congrArg some (by kernel_rfl))⟩
  f27 := ⟨Try.f91.name, by decide, Try.func91.trans (congrArg some (by kernel_rfl))⟩
  f28 := Try.func82.trans (congrArg some (by kernel_rfl))
  f29 := Try.func83.trans (congrArg some (by kernel_rfl))
  f46 := ⟨Try.f107.name, by decide, Try.func107.trans (congrArg some (by kernel_rfl))⟩
  f47 := Try.func103.trans (congrArg some (by kernel_rfl))
  f48 := Try.func104.trans (congrArg some (by kernel_rfl))
  f49 := ⟨Try.f108.name, by decide, Try.func108.trans (congrArg some (by kernel_rfl))⟩
  f50 := ⟨Try.f109.name, by decide, Try.func109.trans (congrArg some (by kernel_rfl))⟩
  f57 := ⟨Try.f112.name, by decide, Try.func112.trans (congrArg some (by kernel_rfl))⟩
  t0 := Try.underlying0
  a0 := Try.isAgg0
  z0 := Try.sizeOf0
  v0 := Try.zeroValue0
  t3 := Try.underlying3
  a3 := Try.isAgg3
  z3 := Try.sizeOf3
  v3 := Try.zeroValue3
  t4 := Try.underlying4
  a4 := Try.isAgg4
  z4 := Try.sizeOf4
  v4 := Try.zeroValue4
  t5 := Try.underlying5
  a5 := Try.isAgg5
  z5 := Try.sizeOf5
  v5 := Try.zeroValue5
  t9 := Try.underlying9
  a9 := Try.isAgg9
  z9 := Try.sizeOf9
  v9 := Try.zeroValue9
  t22 := Try.underlying24
  a22 := Try.isAgg24
  z22 := Try.sizeOf24
  v22 := Try.zeroValue24
  a24 := Try.isAgg22
  z24 := Try.sizeOf22
  t25 := Try.underlying65
  a25 := Try.isAgg65
  z25 := Try.sizeOf65
  v25 := Try.zeroValue65
  t39 := Try.underlying52
  a39 := Try.isAgg52
  z39 := Try.sizeOf52
  v39 := Try.zeroValue52
  t45 := Try.underlying143
  a45 := Try.isAgg143
  z45 := Try.sizeOf143
  v45 := Try.zeroValue143
  t46 := Try.underlying144
  a46 := Try.isAgg144
  z46 := Try.sizeOf144
  v46 := Try.zeroValue144
  t50 := Try.underlying73
  a50 := Try.isAgg73
  z50 := Try.sizeOf73
  v50 := Try.zeroValue73
  t53 := Try.underlying41
  a53 := Try.isAgg41
  z53 := Try.sizeOf41
  v53 := Try.zeroValue41
  t55 := Try.underlying152
  a55 := Try.isAgg152
  z55 := Try.sizeOf152
  v55 := Try.zeroValue152
  t66 := Try.underlying167
  a66 := Try.isAgg167
  z66 := Try.sizeOf167
  v66 := Try.zeroValue167
  t70 := Try.underlying171
  a70 := Try.isAgg171
  z70 := Try.sizeOf171
  v70 := Try.zeroValue171
  t76 := Try.underlying177
  a76 := Try.isAgg177
  z76 := Try.sizeOf177
  v76 := Try.zeroValue177
  t77 := Try.underlying178
  a77 := Try.isAgg178
  z77 := Try.sizeOf178
  v77 := Try.zeroValue178 }
end Go.Proofs

/- slices.SortFunc of a list of own lists by slices.Compare. -/
namespace Go.Proofs.Ytgihncjllelonaa.Ce
open Go Go.Shelf Go.RowKit Go.Lib Go.Sort Go.Proofs.Ytgihncjllelonaa.Mem Go.Proofs.Ytgihncjllelonaa.Sl Go.Proofs.Ytgihncjllelonaa.Lw
set_option linter.unusedSimpArgs false
set_option linter.unusedVariables false

def RowT (W : World) (B : Nat) : Type := {p : Value × List Int // W.ownsRow B 3 1 p.1 p.2.length (ints p.2) ∧ p.2.length ≤ 17592186044416}
instance (W : World) (B : Nat) : Inhabited (RowT W B) := ⟨⟨(.slice none 0 0, []), World.ownsRow_nil _ _ _ _, by simp⟩⟩
def encR {W : World} {B : Nat} (x : RowT W B) : Value := x.1.1
def rowL {W : World} {B : Nat} (x : RowT W B) : List Int := x.1.2
theorem encR_form {W : World} {B : Nat} (x : RowT W B) : ∃ A c, encR x = .slice A (rowL x).length c ∧ (∀ b, A = some ⟨b, 0, none⟩ → (encR x).ownBlock = some b) ∧ RdI W A (rowL x) := by
  obtain ⟨⟨v, l⟩, h, hl⟩ := x
  have h : W.ownsRow B 3 1 v l.length (ints l) := h
  obtain ⟨A, c, rfl⟩ := own_slice h
  exact ⟨A, c, rfl, fun b e => by cases e; rfl, (RdI.of_own h).1⟩
theorem rd_kpt {w W : World} {p : Nat → Prop} {A : Option Addr} {l : List Int} (h : RdI w A l) (hk : Kpt p w W) (hp : ∀ b, A = some ⟨b, 0, none⟩ → ¬ p b) : RdI W A l := fun j x hx => by
  obtain ⟨b, h1, h2⟩ := h j x hx
  exact ⟨b, h1, (World.cell?_of_block (w := w) (hk.block b (World.block_lt_of_cell? _ _ h2) (hp b h1))).trans h2⟩
theorem encR_rd {W W' : World} {B g n c : Nat} {xs : List Value} (h0 : W.ownsRow B 22 1 (.slice (some ⟨g, 0, none⟩) n c) n xs) (hk : Kpt (fun k => k = g) W W') (x : RowT W B) : ∃ A c, encR x = .slice A (rowL x).length c ∧ RdI W' A (rowL x) := by
  obtain ⟨A, c, e, hA, hr⟩ := encR_form x
  exact ⟨A, c, e, rd_kpt hr hk fun b eb e' => own_apart h0 x.2.1 (by decide) (k := g) rfl (by
    have e2 : b = g := e'
    rw [← e2]
    exact hA b eb)⟩
section
variable {w : World} {base g n c : Nat} {rows : List (RowT w base)}
theorem sortWorld_kpt (m : Nat) (dk : Array (RowT w base)) (os : Array Obj) : Kpt (fun k => k = g) w (sortWorld encR w g 0 m dk os) := by
  unfold sortWorld grow
  refine ⟨rfl, rfl, rfl, by simp [putRow, mapBlock, Sort.ahead], fun k hk hne => ?_⟩
  rw [Array.getElem?_append_left (by simpa [putRow, mapBlock, Sort.ahead] using hk)]
  have hne : g ≠ k := fun e => hne e.symm
  simp [putRow, mapBlock, Sort.ahead, Array.getElem?_modify, hne]
theorem holds_rows (h : w.ownsRow base 22 1 (.slice (some ⟨g, 0, none⟩) n c) n (rows.map encR)) : Holds encR w g 0 rows.toArray := fun j hj => by
  have hl := h.1
  rw [List.length_map] at hl
  have hj2 : j < rows.length := by simpa using hj
  refine ⟨?_, h.frozenAt _⟩
  rw [Nat.zero_add, h.cellAt j (by omega), List.getElem?_map]
  simp [getElem!_def, hj2]
theorem own_sortedR {q : Nat} {os : Array Obj} {m : List (RowT w base)} (h : w.ownsRow base 22 1 (.slice (some ⟨g, 0, none⟩) n c) n (rows.map encR)) (hm : m.length = rows.length) :
    (sortWorld encR w g 0 q m.toArray os).ownsRow base 22 1 (.slice (some ⟨g, 0, none⟩) n c) n (m.map encR) := by
  have hl := h.1
  rw [List.length_map] at hl
  rcases h.2 with ⟨e0, _⟩ | ⟨g', cap', cur, e0, hb, hg, hn, hmx, hs, ht⟩
  · cases e0
  · cases e0
    have hlt := lt_of_block hg
    refine ⟨by rw [List.length_map]; omega, .inr ⟨g, c, putCells encR 0 m.toArray cur, rfl, hb, ?_, hn, hmx, by simpa [putCells] using hs, ?_⟩⟩
    · unfold sortWorld putRow grow
      rw [Array.getElem?_append_left (by simpa [putRow, mapBlock, Sort.ahead] using hlt)]
      simp [putRow, mapBlock, Sort.ahead, Array.getElem?_modify, hg, onCells]
    · apply List.ext_getElem?
      intro j
      rw [List.getElem?_take, Array.getElem?_toList]
      rcases Nat.lt_or_ge j n with hj | hj
      · have hjc : j < cur.size := by omega
        have hjm : j < m.length := by omega
        rw [if_pos (by omega)]
        simp only [putCells, Array.getElem?_mapIdx, Array.getElem?_eq_getElem hjc, Option.map_some]
        rw [if_pos (by simp; omega), List.getElem?_map, List.getElem?_eq_getElem hjm]
        simp [getElem!_def, hjm]
      · rw [if_neg (by omega), List.getElem?_eq_none (by rw [List.length_map]; omega)]
end
theorem sortRows_calls (w : World) (base g n c : Nat) (rows : List (RowT w base)) (h : w.ownsRow base 22 1 (.slice (some ⟨g, 0, none⟩) n c) n (rows.map encR)) (hn : n ≤ 100000) :
    Calls Try.prog 23 #[.slice (some ⟨g, 0, none⟩) n c, .func (.func 24) #[] #[]] w fun e w' => e = .returned (.tuple #[]) ∧ ∃ m : List (RowT w base), m.Perm rows ∧ m.Pairwise (fun x y => cmpL (rowL x) (rowL y) ≤ 0) ∧ w'.ownsRow base 22 1 (.slice (some ⟨g, 0, none⟩) n c) n (m.map encR) ∧ Kpt (fun k => k = g) w w' := by
  have hl : rows.length = n := by have := h.1; rw [List.length_map] at this; omega
  have eg : ∀ args w, (callFunc 24 args).run Try.prog w = .ok (.enter 24 args) w := enters_of Try.func24 (by kernel_rfl) rfl
  have hlt : g < w.heap.size := (h.lt g rfl).2
  have h1 : OneCell (encR : RowT w base → Value) := fun x => by
    obtain ⟨A, c, e, _⟩ := encR_form x
    rw [e]
    rfl
  have hcmp : CmpLays1 Try.prog 24 #[] (encR : RowT w base → Value) (fun x y => cmpL (rowL x) (rowL y)) g 0 rows.toArray.size w := fun m os dk hs x y => by
    have hk := sortWorld_kpt (g := g) m dk os
    obtain ⟨A, cx, ex, hx⟩ := encR_rd h hk x
    obtain ⟨B, cy, ey, hy⟩ := encR_rd h hk y
    rw [ex, ey]
    refine (compare_calls _ A B cx cy (rowL x) (rowL y) hx hy (by have := x.2.2; show x.1.2.length ≤ _; omega)).mono ?_
    rintro e w' ⟨rfl, rfl⟩
    exact ⟨rfl, 0, #[], by rw [grow_empty]; rfl⟩
  have hcon := Any.slices_SortFunc Try.sortLists encR h1 (fun x y => cmpL (rowL x) (rowL y)) (swoL rowL) 24 #[] g 0 c rows.toArray w eg hcmp (holds_rows h) hlt (by simp; omega)
  change Calls Try.prog 23 _ _ _ at hcon
  have hsz : rows.toArray.size = n := by simp [hl]
  rw [hsz] at hcon
  refine hcon.mono ?_
  rintro e w' ⟨rfl, d', q, os, hp, hs, rfl⟩
  have hp1 := hp.1
  have hp3 := hp.2.2
  have e1 : d'.extract 0 n = d' := by rw [show n = d'.size by omega]; simp
  have e2 : rows.toArray.extract 0 n = rows.toArray := by rw [show n = rows.toArray.size by omega]; simp
  rw [e1, e2] at hp3
  have hperm : d'.toList.Perm rows := by simpa using hp3
  refine ⟨rfl, d'.toList, hperm, ?_, ?_, ?_⟩
  · rw [List.pairwise_iff_getElem]
    intro i j hi hj hij
    have hj2 : j < d'.size := by simpa using hj
    have hi2 : i < d'.size := by simpa using hi
    have := hs i j (Nat.zero_le _) hij (by omega)
    simp only [getElem!_def, Array.getElem?_eq_getElem hj2, Array.getElem?_eq_getElem hi2] at this
    have this : ¬ cmpL (rowL d'[j]) (rowL d'[i]) < 0 := of_decide_eq_false this
    have h3 := cmpL_swap (rowL d'[i]) (rowL d'[j])
    simp only [Array.getElem_toList]
    omega
  · have := own_sortedR (q := q) (os := os) (m := d'.toList) h hperm.length_eq
    simpa using this
  · exact sortWorld_kpt q d' os
end Go.Proofs.Ytgihncjllelonaa.Ce
