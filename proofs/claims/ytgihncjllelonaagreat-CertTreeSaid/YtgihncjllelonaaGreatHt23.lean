/- slices.Equal of lists of numbers. -/
import Derived.Test.YtgihncjllelonaaGreatHt5
import Derived.Test.YtgihncjllelonaaGreatHt22
import Derived.Test.YtgihncjllelonaaGreatHt12
import Derived.Shelf.SlSortCmp.Insertion
namespace Go.Proofs.YtgihncjllelonaaGreat.Ce
open Go Go.RowKit Go.MapKept Go.Proofs.YtgihncjllelonaaGreat.Mem Go.Proofs.YtgihncjllelonaaGreat.Sl Go.Proofs.YtgihncjllelonaaGreat.Lw Go.Proofs.YtgihncjllelonaaGreat.Tb Go.Proofs.YtgihncjllelonaaGreatW.PrintWords Go.Proofs.YtgihncjllelonaaGreatW.PrintLast
attribute [local go_sem ↓] Go.wp_at_zero Go.wp_at_succ
set_option linter.unusedSimpArgs false
set_option linter.unusedVariables false
def tb48_6.T6 : Bool × List (List Nat × List Nat) := (true, [([], []), ([], []), ([0, 1], [0, 1]), ([2], [2]), ([], []), ([], []), ([4, 5], [4, 5]), ([6], [6]), ([3, 7], [3, 7])])
def tb48_6.B6 : List Nat := [0, 0, 3, 7, 0, 0, 48, 112, 255]
theorem tb48_6.tab6 : rtab .any (opsOf Tryz.f48 6) = tb48_6.T6 := by kernel_rfl
theorem tb48_6.bits6 : waitsOk tb48_6.T6.2 tb48_6.B6 = true := by kernel_rfl
set_option maxHeartbeats 8000000 in
set_option maxRecDepth 100000 in
theorem equal_calls (w : World) (A B : Option Addr) (ca cb : Nat) (l r : List Int) (hl : RdI w A l) (hr : RdI w B r) (hll : l.length ≤ 1000000000000000) : Calls Tryz.prog 48 #[.slice A l.length ca, .slice B r.length cb] w fun e w' => e = .returned (.bool (decide (l = r))) ∧ Below w.heap.size w w' := by
  obtain ⟨n, hn⟩ : ∃ n, l.length = n := ⟨_, rfl⟩
  obtain ⟨m, hm⟩ : ∃ n, r.length = n := ⟨_, rfl⟩
  obtain ⟨ans, hans⟩ : ∃ a, decide (l = r) = a := ⟨_, rfl⟩
  rw [hn] at hll
  rw [hn, hm, hans]
  have HX := Lib.hid (And.intro hl (And.intro hr (And.intro hn (And.intro hm hans))))
  clear hl hr hn hm hans
  by_cases hnm : n = m
  · subst hnm
    have hq : ((n : Int) != (n : Int)) = false := by simp
    go_enter Tryz.func48, Tryz.ntmps48
    go_wp2_with fail
    go_loopg [13] (n + 1) (fun kq v13 w' => ∃ j : Nat, v13 = .int .i64 (j : Int) ∧ Hid (j + kq = n + 1 ∧ j ≤ n ∧ Below w.heap.size w w' ∧ l.take j = r.take j))
    case atStart => exact ⟨0, rfl, Lib.hid ⟨by omega, by omega, Below.refl _ _, rfl⟩⟩
    case round =>
      obtain ⟨j, rfl, hJ⟩ := hrel
      obtain ⟨hjk, hjn, hb, hS⟩ := hJ.out
      clear hJ
      by_cases hj : j < n
      · obtain ⟨k1, rfl⟩ : ∃ k1, gk = k1 + 1 := ⟨gk - 1, by omega⟩
        obtain ⟨x, hx⟩ : ∃ x, l[j]? = some x := ⟨_, List.getElem?_eq_getElem (by have := HX.out.2.2.1; omega)⟩
        obtain ⟨y, hy⟩ : ∃ x, r[j]? = some x := ⟨_, List.getElem?_eq_getElem (by have := HX.out.2.2.2.1; omega)⟩
        have hbd : Below wr.heap.size wr wr.drew := (Below.refl _ _).drew
        have hb2 := hb.trans (hbd.mono hb.size)
        obtain ⟨ga, hga, cx⟩ := (HX.out.1.below hb2) j x hx
        subst hga
        obtain ⟨gb, hgb, cy⟩ := (HX.out.2.1.below hb2) j y hy
        subst hgb
        have j0 : (0 : Int) ≤ (j : Int) := by omega
        have j1 : (j : Int) < (n : Int) := by omega
        have j2 : j + 1 ≤ 1000000000000000 := by omega
        have HC0 := Lib.hid (And.intro cx cy)
        have HS := Lib.hid (And.intro hjk (And.intro hS (And.intro hx (And.intro hy hb2))))
        clear cx cy hb hbd hb2 hx hy hS hjk hj
        go_upto_region 6 with (fail)
        obtain ⟨wd, hwd⟩ : ∃ wd, wr.drew = wd := ⟨_, rfl⟩
        have hc := HC0.out
        rw [hwd] at hc
        have HC := Lib.hid hc
        have hbe := HS.out.2.2.2.2
        rw [hwd] at hbe
        have HBE := Lib.hid hbe
        clear HC0 hc hbe
        by_cases hxy : x = y
        · have hq2 : ((x : Int) != y) = false := by simpa using hxy
          have HN := Lib.hid (show j + 1 + k1 = n + 1 ∧ j + 1 ≤ n ∧ Below w.heap.size w wd ∧ l.take (j + 1) = r.take (j + 1) from ⟨by have := HS.out.1; omega, by omega, HBE.out, by rw [List.take_add_one, List.take_add_one, HS.out.2.1, HS.out.2.2.1, HS.out.2.2.2.1, hxy]⟩)
          clear hxy
          refine start_ (n := 9) (S := fun w' => w'.cell? ⟨ga, j, none⟩ = some (.int .i64 x) ∧ w'.cell? ⟨gb, j, none⟩ = some (.int .i64 y)) (ds := []) (bA 9 0) (by kernel_rfl) rfl rfl ⟨(by rw [hwd]; exact HC.out.1), (by rw [hwd]; exact HC.out.2)⟩ (fun hHeld => ?_)
          rw [hwd] at hHeld ⊢
          refine with_tabW tb48_6.tab6 tb48_6.bits6 (fun HT_ HW_ => ?_)
          refine pw_ 0 16 (bA 9 1) HT_.out ?_
          refine pw_ 1 17 (bA 9 3) HT_.out ?_
          refine pw_ 2 18 (bA 9 7) HT_.out ?_
          refine pw_ 4 20 (bA 9 23) HT_.out ?_
          refine pw_ 5 21 (bA 9 55) HT_.out ?_
          refine pw_ 6 22 (bA 9 119) HT_.out ?_
          refine tw_ 3 19 (bA 9 127) HT_.out HW_.out hHeld (hv := by rintro w' ⟨s0, s1⟩; go_simp; with_reducible rfl) (h := ?_)
          refine tw_ 7 23 (bA 9 255) HT_.out HW_.out hHeld (hv := by rintro w' ⟨s0, s1⟩; go_simp; with_reducible rfl) (h := ?_)
          refine pw_ 8 24 (bA 9 511) HT_.out ?_
          refine done_ (done_of HT_.out (by kernel_rfl)) ?_
          clear hHeld HT_ HW_; clear HS HBE HC hwd
          go_wp2
          go_roundg k1
          case measure => omega
          case rel => exact ⟨j + 1, by go_num, HN⟩
        · have hq2 : ((x : Int) != y) = true := by simpa using hxy
          have HN := Lib.hid (show false = ans from by
            rw [← HX.out.2.2.2.2]
            symm
            apply decide_eq_false
            intro h
            have h1 := HS.out.2.2.1
            rw [h, HS.out.2.2.2.1] at h1
            exact hxy (Option.some.inj h1).symm)
          clear hxy
          refine start_ (n := 9) (S := fun w' => w'.cell? ⟨ga, j, none⟩ = some (.int .i64 x) ∧ w'.cell? ⟨gb, j, none⟩ = some (.int .i64 y)) (ds := []) (bA 9 0) (by kernel_rfl) rfl rfl ⟨(by rw [hwd]; exact HC.out.1), (by rw [hwd]; exact HC.out.2)⟩ (fun hHeld => ?_)
          rw [hwd] at hHeld ⊢
          refine with_tabW tb48_6.tab6 tb48_6.bits6 (fun HT_ HW_ => ?_)
          refine pw_ 0 16 (bA 9 1) HT_.out ?_
          refine pw_ 1 17 (bA 9 3) HT_.out ?_
          refine pw_ 2 18 (bA 9 7) HT_.out ?_
          refine pw_ 4 20 (bA 9 23) HT_.out ?_
          refine pw_ 5 21 (bA 9 55) HT_.out ?_
          refine pw_ 6 22 (bA 9 119) HT_.out ?_
          refine tw_ 3 19 (bA 9 127) HT_.out HW_.out hHeld (hv := by rintro w' ⟨s0, s1⟩; go_simp; with_reducible rfl) (h := ?_)
          refine tw_ 7 23 (bA 9 255) HT_.out HW_.out hHeld (hv := by rintro w' ⟨s0, s1⟩; go_simp; with_reducible rfl) (h := ?_)
          refine pw_ 8 24 (bA 9 511) HT_.out ?_
          refine done_ (done_of HT_.out (by kernel_rfl)) ?_
          clear hHeld HT_ HW_; clear HS HC hwd
          go_wp2
          go_ret
          exact ⟨by rw [← HN.out]; rfl, HBE.out⟩
      · obtain rfl : j = n := by omega
        have jn : ¬ ((j : Int) < (j : Int)) := by omega
        rw [List.take_of_length_le (by have := HX.out.2.2.1; omega), List.take_of_length_le (by have := HX.out.2.2.2.1; omega)] at hS
        have HN := Lib.hid (And.intro (show true = ans from by rw [← HX.out.2.2.2.2, decide_eq_true hS]) hb)
        clear hS hb hjk hj hjn
        go_wp2
        go_ret
        exact ⟨by rw [← HN.out.1]; rfl, HN.out.2⟩
  · have hq : ((n : Int) != (m : Int)) = true := by simpa using (show ¬ ((n : Int) = (m : Int)) by omega)
    have HN := Lib.hid (show false = ans from by
      rw [← HX.out.2.2.2.2]
      symm
      apply decide_eq_false
      intro h
      have h1 := HX.out.2.2.1
      rw [h] at h1
      exact hnm (h1.symm.trans HX.out.2.2.2.1))
    clear hnm
    go_enter Tryz.func48, Tryz.ntmps48
    go_wp2
    go_ret
    exact ⟨by rw [← HN.out]; rfl, Below.refl _ _⟩
end Go.Proofs.YtgihncjllelonaaGreat.Ce

/- slices.EqualFunc of lists of lists. -/
namespace Go.Proofs.YtgihncjllelonaaGreat.Ce
open Go Go.RowKit Go.MapKept Go.Proofs.YtgihncjllelonaaGreat.Mem Go.Proofs.YtgihncjllelonaaGreat.Sl Go.Proofs.YtgihncjllelonaaGreat.Lw Go.Proofs.YtgihncjllelonaaGreat.Tb Go.Proofs.YtgihncjllelonaaGreatW.PrintWords Go.Proofs.YtgihncjllelonaaGreatW.PrintLast
attribute [local go_sem ↓] Go.wp_at_zero Go.wp_at_succ
set_option linter.unusedSimpArgs false
set_option linter.unusedVariables false
set_option maxHeartbeats 8000000 in
set_option maxRecDepth 100000 in
theorem equalfunc_calls (w : World) (A B : Option Addr) (ca cb : Nat) (ls rs : List (List Int)) (hl : RdL w A ls) (hr : RdL w B rs) (hll : ls.length ≤ 1000000000000000) (hlb : ∀ l ∈ ls, l.length ≤ 1000000000000000) : Calls Tryz.prog 68 #[.slice A ls.length ca, .slice B rs.length cb, .func (.func 48) #[] #[]] w fun e w' => e = .returned (.bool (decide (ls = rs))) ∧ Below w.heap.size w w' := by
  obtain ⟨n, hn⟩ : ∃ n, ls.length = n := ⟨_, rfl⟩
  obtain ⟨m, hm⟩ : ∃ n, rs.length = n := ⟨_, rfl⟩
  obtain ⟨ans, hans⟩ : ∃ a, decide (ls = rs) = a := ⟨_, rfl⟩
  rw [hn] at hll
  rw [hn, hm, hans]
  have HX := Lib.hid (And.intro hl (And.intro hr (And.intro hn (And.intro hm (And.intro hans hlb)))))
  clear hl hr hn hm hans hlb
  by_cases hnm : n = m
  · subst hnm
    have hq : ((n : Int) != (n : Int)) = false := by simp
    go_enter Tryz.func68, Tryz.ntmps68
    go_wp2_with fail
    go_loopg [17] (n + 1) (fun kq v17 w' => ∃ j : Nat, v17 = .int .i64 (j : Int) ∧ Hid (j + kq = n + 1 ∧ j ≤ n ∧ Below w.heap.size w w' ∧ ls.take j = rs.take j))
    case atStart => exact ⟨0, rfl, Lib.hid ⟨by omega, by omega, Below.refl _ _, rfl⟩⟩
    case round =>
      obtain ⟨j, rfl, hJ⟩ := hrel
      obtain ⟨hjk, hjn, hb, hS⟩ := hJ.out
      clear hJ
      by_cases hj : j < n
      · obtain ⟨k1, rfl⟩ : ∃ k1, gk = k1 + 1 := ⟨gk - 1, by omega⟩
        obtain ⟨x, hx⟩ : ∃ x, ls[j]? = some x := ⟨_, List.getElem?_eq_getElem (by have := HX.out.2.2.1; omega)⟩
        obtain ⟨y, hy⟩ : ∃ x, rs[j]? = some x := ⟨_, List.getElem?_eq_getElem (by have := HX.out.2.2.2.1; omega)⟩
        obtain ⟨ga, Ax, cax, hga, cx, hrx⟩ := (HX.out.1.below hb) j x hx
        subst hga
        obtain ⟨gb, Ay, cay, hgb, cy, hry⟩ := (HX.out.2.1.below hb) j y hy
        subst hgb
        have j0 : (0 : Int) ≤ (j : Int) := by omega
        have j1 : (j : Int) < (n : Int) := by omega
        have j2 : j + 1 ≤ 1000000000000000 := by omega
        have heq := equal_calls wr Ax Ay cax cay x y hrx hry (HX.out.2.2.2.2.2 x (List.mem_of_getElem? hx))
        obtain ⟨nx, hnx⟩ : ∃ k, x.length = k := ⟨_, rfl⟩
        obtain ⟨ny, hny⟩ : ∃ k, y.length = k := ⟨_, rfl⟩
        obtain ⟨q, hqq⟩ : ∃ k, decide (x = y) = k := ⟨_, rfl⟩
        rw [hnx, hny, hqq] at heq
        rw [hnx] at cx
        rw [hny] at cy
        have HE := Lib.hid heq
        have HS := Lib.hid (And.intro hjk (And.intro hS (And.intro hx (And.intro hy (And.intro hb hqq)))))
        clear hb hx hy hS hjk hj heq hnx hny hqq hrx hry
        go_wp2_with fail
        refine HE.out.mono ?_
        clear HE cx cy
        rintro e w1 ⟨rfl, b1⟩
        have HB := Lib.hid (HS.out.2.2.2.2.1.trans (b1.mono HS.out.2.2.2.2.1.size))
        clear b1
        cases q with
        | true =>
          have HN := Lib.hid (show j + 1 + k1 = n + 1 ∧ j + 1 ≤ n ∧ Below w.heap.size w w1 ∧ ls.take (j + 1) = rs.take (j + 1) from ⟨by have := HS.out.1; omega, by omega, HB.out, by rw [List.take_add_one, List.take_add_one, HS.out.2.1, HS.out.2.2.1, HS.out.2.2.2.1, of_decide_eq_true HS.out.2.2.2.2.2]⟩)
          clear HS HB
          go_wp2
          go_roundg k1
          case measure => omega
          case rel => exact ⟨j + 1, by go_num, HN⟩
        | false =>
          have HN := Lib.hid (show false = ans from by
            rw [← HX.out.2.2.2.2.1]
            symm
            apply decide_eq_false
            intro h
            have h1 := HS.out.2.2.1
            rw [h, HS.out.2.2.2.1] at h1
            exact of_decide_eq_false HS.out.2.2.2.2.2 (Option.some.inj h1).symm)
          clear HS
          go_wp2
          go_ret
          exact ⟨by rw [← HN.out]; rfl, HB.out⟩
      · obtain rfl : j = n := by omega
        have jn : ¬ ((j : Int) < (j : Int)) := by omega
        rw [List.take_of_length_le (by have := HX.out.2.2.1; omega), List.take_of_length_le (by have := HX.out.2.2.2.1; omega)] at hS
        have HN := Lib.hid (And.intro (show true = ans from by rw [← HX.out.2.2.2.2.1, decide_eq_true hS]) hb)
        clear hS hb hjk hj hjn
        go_wp2
        go_ret
        exact ⟨by rw [← HN.out.1]; rfl, HN.out.2⟩
  · have hq : ((n : Int) != (m : Int)) = true := by simpa using (show ¬ ((n : Int) = (m : Int)) by omega)
    have HN := Lib.hid (show false = ans from by
      rw [← HX.out.2.2.2.2.1]
      symm
      apply decide_eq_false
      intro h
      have h1 := HX.out.2.2.1
      rw [h] at h1
      exact hnm (h1.symm.trans HX.out.2.2.2.1))
    clear hnm
    go_enter Tryz.func68, Tryz.ntmps68
    go_wp2
    go_ret
    exact ⟨by rw [← HN.out]; rfl, Below.refl _ _⟩
end Go.Proofs.YtgihncjllelonaaGreat.Ce

/- The references' Sorted, walked. -/
namespace Go.Proofs.YtgihncjllelonaaGreat.Lw
open Go Go.RowKit Go.Proofs.YtgihncjllelonaaGreat.Mem Go.Proofs.YtgihncjllelonaaGreat.Sl Go.Proofs.YtgihncjllelonaaGreat.Scc Go.Proofs.YtgihncjllelonaaGreat.Tj Go.Proofs.YtgihncjllelonaaGreatW.PrintWords Go.Proofs.YtgihncjllelonaaGreatW.PrintLast
attribute [local go_sem ↓] Go.wp_at_zero Go.wp_at_succ
set_option linter.unusedSimpArgs false
set_option linter.unusedVariables false

theorem ins_ok {old : List Int} {a : Int} {k : Nat} (hs : old.Pairwise (· ≤ ·)) (hlow : ∀ x ∈ old.take k, x ≤ a) (hhigh : ∀ x ∈ old.drop k, a < x) {t : List Int} (ht : t.Perm old) : sorted (t ++ [a]) = old.take k ++ a :: old.drop k := by
  refine sorted_of ?_ ?_
  · have h1 : (t ++ [a]).Perm (a :: old) := List.perm_append_comm.trans (ht.cons a)
    refine h1.trans ?_
    have h2 : (old.take k ++ a :: old.drop k).Perm (a :: (old.take k ++ old.drop k)) := List.perm_middle
    rw [List.take_append_drop] at h2
    exact h2.symm
  · rw [List.pairwise_append, List.pairwise_cons]
    have hs' := hs
    rw [← List.take_append_drop k old, List.pairwise_append] at hs'
    refine ⟨hs'.1, ⟨fun x hx => Int.le_of_lt (hhigh x hx), hs'.2.1⟩, fun x hx y hy => ?_⟩
    rcases List.mem_cons.1 hy with rfl | hy
    · exact hlow x hx
    · exact hs'.2.2 x hx y hy

theorem low_all {old : List Int} {a : Int} {k : Nat} (hs : old.Pairwise (· ≤ ·)) (hk : k < old.length) (h : old[k] ≤ a) : ∀ x ∈ old.take (k + 1), x ≤ a := by
  intro x hx
  obtain ⟨j, hj, rfl⟩ := List.mem_take_iff_getElem.1 hx
  rcases Nat.lt_or_ge j k with h1 | h1
  · have := List.pairwise_iff_getElem.1 hs j k (by omega) hk h1
    omega
  · obtain rfl : j = k := by omega
    exact h

theorem hole_at {old : List Int} {h : Int} {k : Nat} (hk : k < old.length) : (old.take (k + 1) ++ h :: old.drop (k + 1))[k]? = some old[k] := by
  rw [List.getElem?_append_left (by rw [List.length_take]; omega), List.getElem?_take, if_pos (by omega), List.getElem?_eq_getElem hk]
theorem hole_set {old : List Int} {h x : Int} {k : Nat} (hk : k ≤ old.length) : (old.take k ++ h :: old.drop k).set k x = old.take k ++ x :: old.drop k := by
  have hl : (old.take k).length = k := by rw [List.length_take]; omega
  rw [List.set_append, if_neg (by omega), hl, Nat.sub_self, List.set_cons_zero]
theorem hole_down {old : List Int} {k : Nat} (hk : k < old.length) : old.take (k + 1) ++ old[k] :: old.drop (k + 1) = old.take k ++ old[k] :: old.drop k := by
  rw [List.take_succ_eq_append_getElem hk, List.append_assoc, List.drop_eq_getElem_cons hk]
  rfl
theorem hole_length {old : List Int} {h : Int} {k : Nat} (hk : k ≤ old.length) : (old.take k ++ h :: old.drop k).length = old.length + 1 := by
  rw [List.length_append, List.length_cons, List.length_take, List.length_drop]
  omega

def RdO (w : World) (A : Option Addr) (l : List Int) : Prop := ∀ (j : Nat) (x : Int), l[j]? = some x → ∃ b off, A = some ⟨b, off, none⟩ ∧ w.cell? ⟨b, off + j, none⟩ = some (.int .i64 x)
theorem RdO.below {w w' : World} {A : Option Addr} {l : List Int} (h : RdO w A l) (hb : Below w.heap.size w w') : RdO w' A l := fun j x hx => by
  obtain ⟨b, off, h1, h2⟩ := h j x hx
  exact ⟨b, off, h1, (hb.cell (World.block_lt_of_cell? w _ h2)).trans h2⟩
theorem RdI.o {w : World} {A : Option Addr} {l : List Int} (h : RdI w A l) : RdO w A l := fun j x hx => by
  obtain ⟨b, h1, h2⟩ := h j x hx
  exact ⟨b, 0, h1, by rw [Nat.zero_add]; exact h2⟩

def tb62_7.T7 : Bool × List (List Nat × List Nat) := (true, [([], []), ([0], [0]), ([1], [1]), ([2], [2]), ([2], [2]), ([4, 2], [2, 4]), ([3, 5, 2], [2, 3, 5]), ([6, 2], [2, 6]), ([2], [2]), ([2], [2]), ([8, 9, 2], [2, 8, 9]), ([10, 2], [2, 10]), ([7, 11, 2], [2, 7, 11]), ([2, 12], [2, 12])])
def tb62_7.B7 : List Nat := [0, 1, 3, 7, 7, 23, 63, 127, 7, 7, 775, 1799, 4095, 8191]
theorem tb62_7.tab7 : rtab .any (opsOf Tryz.f62 7) = tb62_7.T7 := by kernel_rfl
theorem tb62_7.bits7 : waitsOk tb62_7.T7.2 tb62_7.B7 = true := by kernel_rfl
set_option maxHeartbeats 8000000 in
set_option maxRecDepth 100000 in
theorem sortedO_calls (w : World) (A : Option Addr) (c : Nat) (l : List Int) (hv : RdO w A l) (hl : l.length ≤ 17592186044416) :
    Calls Tryz.prog 62 #[.slice A l.length c] w fun e w' => ∃ v, e = .returned v ∧ One w 3 1 v l.length (ints (sorted l)) w' := by
  obtain ⟨i1, hi1, hz1, hs1, hy1⟩ := info_parts info_int
  have HV := Lib.hid hv
  clear hv
  go_enter Tryz.func62, Tryz.ntmps62
  go_wp2
  go_loopg [3, 4, 5] l.length (fun kq v3 v4 v5 w' => ∃ i : Nat, v4 = .int .i64 (i : Int) ∧ Hid (i + kq = l.length ∧ One w 3 1 v3 i (ints (sorted (l.take i))) w'))
  case atStart => exact ⟨0, rfl, Lib.hid ⟨by omega, by rw [List.take_zero]; simp only [sorted, List.mergeSort_nil]; exact One.start⟩⟩
  case round =>
    obtain ⟨i, rfl, hI⟩ := hrel
    obtain ⟨hik, hO⟩ := hI.out
    clear hI
    by_cases hi : i < l.length
    · obtain ⟨k1, rfl⟩ : ∃ k1, gk = k1 + 1 := ⟨gk - 1, by omega⟩
      obtain ⟨a, ha⟩ : ∃ a, l[i]? = some a := ⟨_, List.getElem?_eq_getElem hi⟩
      obtain ⟨b, bo, rfl, ca⟩ := (HV.out.below hO.b) i a ha
      obtain ⟨t, htk⟩ : ∃ t, l.take i = t := ⟨_, rfl⟩
      have htl : l.take (i + 1) = t ++ [a] := by rw [List.take_add_one, ha, htk]; rfl
      rw [htk] at hO
      have hop : t.Perm (sorted t) := (List.mergeSort_perm t _).symm
      obtain ⟨old, hold⟩ : ∃ old, sorted t = old := ⟨_, rfl⟩
      have hos : old.Pairwise (· ≤ ·) := hold ▸ sorted_rising t
      rw [hold] at hO hop
      have hon : old.length = i := by have := hO.r.1; rw [ints_length] at this; omega
      obtain ⟨A3, c3, rfl⟩ := own_slice hO.r
      have HO := Lib.hid hO
      have HX := Lib.hid ha
      have HTL := Lib.hid htl
      have HOP := Lib.hid hop
      have HOS := Lib.hid hos
      have HON := Lib.hid hon
      have HIK := Lib.hid hik
      have j0 : (0 : Int) ≤ (i : Int) := by omega
      have j1 : (i : Int) < (l.length : Int) := by omega
      have j2 : (l.length : Int) ≤ 17592186044416 := by omega
      clear hO ha htl hop hos hon hik hold htk hi
      go_wp2_with ((at_builtin; refine wpList_append_any rfl (.tmp 14) (.tmp 19) 22 rfl w.heap.size 3 i1 (.int .i64 0) 1 8 Tryz.underlying22 hi1 hz1 hs1 hy1 rfl (by omega) _ _ _ rfl (HO.out.r.alloc (.cells #[.int .i64 a] 3)) _ rfl 1 [.int .i64 a] (RdV.lit wr #[.int .i64 a] 3 1 1 1 rfl (by simp [Value.oneCell'])) (by unfold maxLen; omega) (by omega) (by have := HO.out.b.size; simp; omega) ?_; intro v3 w3 ho hg hn; have hone := (HO.out.below ((Below.refl _ _).alloc (Nat.le_refl _) (.cells #[.int .i64 a] 3))).grow ho hg; have HO3 := Lib.hid hone; clear ho hg hn hone HO))
      have hw3 := HO3.out.r
      obtain ⟨g, cg, rfl, hgb, _⟩ := hw3.form (by omega)
      have HGB := Lib.hid hgb
      clear hw3 hgb ca
      go_loopg [5] i (fun k v5 w' => v5 = .int .i64 (k : Int) ∧ Hid (k ≤ i ∧ ∃ h, One w 3 1 (.slice (some ⟨g, 0, none⟩) (i + 1) cg) (i + 1) (ints (old.take k ++ h :: old.drop k)) w' ∧ ∀ x ∈ old.drop k, a < x))
      case atStart => exact ⟨rfl, Lib.hid ⟨Nat.le_refl _, a, by rw [List.take_of_length_le (Nat.le_of_eq HON.out), List.drop_of_length_le (Nat.le_of_eq HON.out), ← ints_snoc]; exact HO3.out, by rw [List.drop_of_length_le (Nat.le_of_eq HON.out)]; simp⟩⟩
      case round =>
        clear HO3
        obtain ⟨rfl, hI⟩ := hrel
        obtain ⟨hkn, h, hO, hhi⟩ := hI.out
        clear hI
        have hon := HON.out
        cases gk with
        | zero =>
          have HHI := Lib.hid hhi
          have HO := Lib.hid (show One w 3 1 (.slice (some ⟨g, 0, none⟩) (i + 1) cg) (i + 1) (ints (old.take 0 ++ h :: old.drop 0)) wr.drew from ⟨hO.r.drew, hO.b.drew⟩)
          clear hO hhi
          go_upto_region 7 with (fail)
          refine start_ (n := 14) (S := fun w' => True) (ds := []) (bA 14 0) (by kernel_rfl) rfl rfl trivial (fun hHeld => ?_)
          refine with_tabW tb62_7.tab7 tb62_7.bits7 (fun HT_ HW_ => ?_)
          refine pw_ 0 21 (bA 14 1) HT_.out ?_
          refine pw_ 1 22 (bA 14 3) HT_.out ?_
          refine pw_ 2 23 (bA 14 7) HT_.out ?_
          refine pu_ 3 24 (bA 14 15) HT_.out ?_
          refine pu_ 4 25 (bA 14 31) HT_.out ?_
          refine pu_ 5 26 (bA 14 63) HT_.out ?_
          refine pu_ 6 27 (bA 14 127) HT_.out ?_
          refine pu_ 7 28 (bA 14 255) HT_.out ?_
          refine pu_ 8 29 (bA 14 511) HT_.out ?_
          refine pu_ 9 30 (bA 14 1023) HT_.out ?_
          refine pu_ 10 31 (bA 14 2047) HT_.out ?_
          refine pu_ 11 32 (bA 14 4095) HT_.out ?_
          refine pu_ 12 33 (bA 14 8191) HT_.out ?_
          refine pw_ 13 34 (bA 14 16383) HT_.out ?_
          refine done_ (done_of HT_.out (by kernel_rfl)) ?_
          clear hHeld HT_ HW_
          obtain ⟨wz, hwz⟩ : ∃ wz, wr.drew = wz := ⟨_, rfl⟩
          rw [hwz] at HO ⊢
          clear hwz
          obtain ⟨x0, hx0⟩ : ∃ x0, (ints (old.take 0 ++ h :: old.drop 0))[0]? = some x0 := ⟨_, List.getElem?_eq_getElem (by rw [ints_length, hole_length (by omega)]; omega)⟩
          have hck : wz.cell? ⟨g, 0, none⟩ = some x0 := (HO.out.r.cellAt 0 (by omega)).trans hx0
          have hfr : wz.frozen? ⟨g, 0, none⟩ = false := HO.out.r.frozenAt 0
          have ca : wz.cell? ⟨b, bo + i, none⟩ = some (.int .i64 a) := by
            obtain ⟨_, _, he, h3⟩ := (HV.out.below HO.out.b) i a HX.out
            cases he
            exact h3
          have hst := HO.out.r.stored 0 (.int .i64 a)
          rw [ints_set, hole_set (by omega)] at hst
          have hins := ins_ok (a := a) (k := 0) HOS.out (by simp) HHI.out HOP.out
          rw [← hins] at hst
          have hone : One w 3 1 (.slice (some ⟨g, 0, none⟩) (i + 1) cg) (i + 1) (ints (sorted (t ++ [a]))) (wz.setCell ⟨g, 0, none⟩ (.int .i64 a)) := ⟨hst.1, HO.out.b.setCell HGB.out _⟩
          have HN := Lib.hid hone
          clear hst hins hone HO hx0 HHI
          go_wp2_with fail
          go_roundg k1
          case measure => have := HIK.out; omega
          case rel => exact ⟨i + 1, by go_num, Lib.hid ⟨by have := HIK.out; omega, by rw [HTL.out]; exact HN.out⟩⟩
        | succ k =>
          obtain ⟨y, hy⟩ : ∃ y, old[k]? = some y := ⟨_, List.getElem?_eq_getElem (by omega)⟩
          obtain ⟨hkl, hye⟩ := List.getElem?_eq_some_iff.1 hy
          have cy := (hO.r.cellAt k (by omega)).trans (Mem.ints_at _ ((hole_at (h := h) hkl).trans (congrArg some hye)))
          obtain ⟨_, _, he, ca⟩ := (HV.out.below hO.b) i a HX.out
          cases he
          have k0 : (0 : Int) ≤ (k : Int) := by omega
          have k1' : (k : Int) < (i : Int) + 1 := by omega
          have k2' : (k : Int) + 1 < (i : Int) + 1 := by omega
          have e3 : decide ((0 : Int) < ((k + 1 : Nat) : Int)) = true := by rw [decide_eq_true_eq]; omega
          have e4 : ∀ x : Nat, x = k → wrap64 (x : Int) = (x : Int) := fun x hx => by subst hx; unfold wrap64; omega
          have HKN := Lib.hid hkn
          have HKL := Lib.hid hkl
          by_cases hya : a < y
          · have e5 : decide (a < y) = true := by rw [decide_eq_true_eq]; exact hya
            have hOz : One w 3 1 (.slice (some ⟨g, 0, none⟩) (i + 1) cg) (i + 1) (ints (old.take (k + 1) ++ h :: old.drop (k + 1))) wr.drew := ⟨hO.r.drew, hO.b.drew⟩
            obtain ⟨x0, hx0⟩ : ∃ x0, (ints (old.take (k + 1) ++ h :: old.drop (k + 1)))[k + 1]? = some x0 := ⟨_, List.getElem?_eq_getElem (by rw [ints_length, hole_length (by omega)]; omega)⟩
            have cyz : wr.drew.cell? ⟨g, k, none⟩ = some (.int .i64 y) := cy
            have hck := (hOz.r.cellAt (k + 1) (by omega)).trans hx0
            have hfr := hOz.r.frozenAt (k + 1)
            have hst := hOz.r.stored (k + 1) (.int .i64 y)
            rw [ints_set, hole_set (by omega)] at hst
            rw [show old.take (k + 1) ++ y :: old.drop (k + 1) = old.take k ++ y :: old.drop k by rw [← hye]; exact hole_down hkl] at hst
            have hone : One w 3 1 (.slice (some ⟨g, 0, none⟩) (i + 1) cg) (i + 1) (ints (old.take k ++ y :: old.drop k)) (wr.drew.setCell ⟨g, k + 1, none⟩ (.int .i64 y)) := ⟨hst.1, hOz.b.setCell HGB.out _⟩
            have HH := Lib.hid (show ∀ x ∈ old.drop k, a < x from fun x hx => by
              rw [List.drop_eq_getElem_cons hkl] at hx
              rcases List.mem_cons.1 hx with rfl | hx
              · rw [hye]; exact hya
              · exact hhi x hx)
            obtain ⟨wz, hwz⟩ : ∃ wz, wr.drew = wz := ⟨_, rfl⟩
            rw [hwz] at cyz hck hfr hone
            have HN := Lib.hid hone
            have HWZ := Lib.hid hwz
            clear hO hOz hst hone hhi hx0 hy hya hkl hye hkn hwz
            go_upto_region 7 with (fail)
            refine start_ (n := 14) (S := fun w' => w'.cell? ⟨g, k, none⟩ = some (.int .i64 y) ∧ w'.cell? ⟨b, bo + i, none⟩ = some (.int .i64 a)) (ds := []) (bA 14 0) (by kernel_rfl) rfl rfl ⟨cy, ca⟩ (fun hHeld => ?_)
            refine with_tabW tb62_7.tab7 tb62_7.bits7 (fun HT_ HW_ => ?_)
            refine pw_ 0 21 (bA 14 1) HT_.out ?_
            refine pw_ 1 22 (bA 14 3) HT_.out ?_
            refine pw_ 2 23 (bA 14 7) HT_.out ?_
            refine pw_ 3 24 (bA 14 15) HT_.out ?_
            refine pw_ 4 25 (bA 14 31) HT_.out ?_
            refine pw_ 5 26 (bA 14 63) HT_.out ?_
            refine pw_ 6 27 (bA 14 127) HT_.out ?_
            refine pw_ 8 29 (bA 14 383) HT_.out ?_
            refine pw_ 9 30 (bA 14 895) HT_.out ?_
            refine pw_ 10 31 (bA 14 1919) HT_.out ?_
            refine tw_ 7 28 (bA 14 2047) HT_.out HW_.out hHeld (hv := by rintro w' ⟨s0, s1⟩; go_simp; with_reducible rfl) (h := ?_)
            refine tw_ 11 32 (bA 14 4095) HT_.out HW_.out hHeld (hv := by rintro w' ⟨s0, s1⟩; go_simp; with_reducible rfl) (h := ?_)
            refine pw_ 12 33 (bA 14 8191) HT_.out ?_
            refine pw_ 13 34 (bA 14 16383) HT_.out ?_
            refine done_ (done_of HT_.out (by kernel_rfl)) ?_
            clear hHeld HT_ HW_
            rw [HWZ.out]
            clear cy ca HWZ
            go_wp2
            go_roundg k
            case measure => omega
            case rel => exact ⟨by go_num, Lib.hid ⟨by have := HKN.out; omega, y, HN.out, HH.out⟩⟩
          · have e5 : decide (a < y) = false := by rw [decide_eq_false_iff_not]; exact hya
            have HLOW := Lib.hid (low_all (a := a) HOS.out hkl (by rw [hye]; omega))
            have HHI := Lib.hid hhi
            have HO := Lib.hid (show One w 3 1 (.slice (some ⟨g, 0, none⟩) (i + 1) cg) (i + 1) (ints (old.take (k + 1) ++ h :: old.drop (k + 1))) wr.drew from ⟨hO.r.drew, hO.b.drew⟩)
            clear hO hhi hy hya hkl hye hkn
            go_upto_region 7 with (fail)
            refine start_ (n := 14) (S := fun w' => w'.cell? ⟨g, k, none⟩ = some (.int .i64 y) ∧ w'.cell? ⟨b, bo + i, none⟩ = some (.int .i64 a)) (ds := []) (bA 14 0) (by kernel_rfl) rfl rfl ⟨cy, ca⟩ (fun hHeld => ?_)
            refine with_tabW tb62_7.tab7 tb62_7.bits7 (fun HT_ HW_ => ?_)
            refine pw_ 0 21 (bA 14 1) HT_.out ?_
            refine pw_ 1 22 (bA 14 3) HT_.out ?_
            refine pw_ 2 23 (bA 14 7) HT_.out ?_
            refine pw_ 3 24 (bA 14 15) HT_.out ?_
            refine pw_ 4 25 (bA 14 31) HT_.out ?_
            refine pw_ 5 26 (bA 14 63) HT_.out ?_
            refine pw_ 6 27 (bA 14 127) HT_.out ?_
            refine pw_ 8 29 (bA 14 383) HT_.out ?_
            refine pw_ 9 30 (bA 14 895) HT_.out ?_
            refine pw_ 10 31 (bA 14 1919) HT_.out ?_
            refine tw_ 7 28 (bA 14 2047) HT_.out HW_.out hHeld (hv := by rintro w' ⟨s0, s1⟩; go_simp; with_reducible rfl) (h := ?_)
            refine tw_ 11 32 (bA 14 4095) HT_.out HW_.out hHeld (hv := by rintro w' ⟨s0, s1⟩; go_simp; with_reducible rfl) (h := ?_)
            refine pw_ 12 33 (bA 14 8191) HT_.out ?_
            refine pw_ 13 34 (bA 14 16383) HT_.out ?_
            refine done_ (done_of HT_.out (by kernel_rfl)) ?_
            clear hHeld HT_ HW_; clear cy ca
            obtain ⟨wz, hwz⟩ : ∃ wz, wr.drew = wz := ⟨_, rfl⟩
            rw [hwz] at HO ⊢
            clear hwz
            have hkn := HKN.out
            obtain ⟨x0, hx0⟩ : ∃ x0, (ints (old.take (k + 1) ++ h :: old.drop (k + 1)))[(k + 1)]? = some x0 := ⟨_, List.getElem?_eq_getElem (by rw [ints_length, hole_length (by omega)]; omega)⟩
            have hck : wz.cell? ⟨g, (k + 1), none⟩ = some x0 := (HO.out.r.cellAt (k + 1) (by omega)).trans hx0
            have hfr : wz.frozen? ⟨g, (k + 1), none⟩ = false := HO.out.r.frozenAt (k + 1)
            have ca : wz.cell? ⟨b, bo + i, none⟩ = some (.int .i64 a) := by
              obtain ⟨_, _, he, h3⟩ := (HV.out.below HO.out.b) i a HX.out
              cases he
              exact h3
            have hst := HO.out.r.stored (k + 1) (.int .i64 a)
            rw [ints_set, hole_set (by omega)] at hst
            have hins := ins_ok (a := a) (k := (k + 1)) HOS.out HLOW.out HHI.out HOP.out
            rw [← hins] at hst
            have hone : One w 3 1 (.slice (some ⟨g, 0, none⟩) (i + 1) cg) (i + 1) (ints (sorted (t ++ [a]))) (wz.setCell ⟨g, (k + 1), none⟩ (.int .i64 a)) := ⟨hst.1, HO.out.b.setCell HGB.out _⟩
            have HN := Lib.hid hone
            clear hst hins hone HO hx0 HHI
            go_wp2_with fail
            go_roundg k1
            case measure => have := HIK.out; omega
            case rel => exact ⟨i + 1, by go_num, Lib.hid ⟨by have := HIK.out; omega, by rw [HTL.out]; exact HN.out⟩⟩
    · obtain rfl : i = l.length := by omega
      rw [List.take_length] at hO
      have HO := Lib.hid hO
      clear hO hik hi
      go_wp2
      go_ret
      exact ⟨_, rfl, HO.out⟩

theorem sorted_calls (w : World) (A : Option Addr) (c : Nat) (l : List Int) (hv : RdI w A l) (hl : l.length ≤ 1000000) :
    Calls Tryz.prog 62 #[.slice A l.length c] w fun e w' => ∃ v, e = .returned v ∧ One w 3 1 v l.length (ints (sorted l)) w' := sortedO_calls w A c l (RdI.o hv) (by omega)
end Go.Proofs.YtgihncjllelonaaGreat.Lw

/- slices.Clone and slices.Sort of long lists, at addresses with an offset. -/
namespace Go.Proofs.YtgihncjllelonaaGreat.Ce
open Go Go.RowKit Go.MapKept Go.Proofs.YtgihncjllelonaaGreat.Mem Go.Proofs.YtgihncjllelonaaGreat.Sl Go.Proofs.YtgihncjllelonaaGreat.Lw Go.Proofs.YtgihncjllelonaaGreat.Tb Go.Proofs.YtgihncjllelonaaGreatW.PrintWords Go.Proofs.YtgihncjllelonaaGreatW.PrintLast
set_option linter.unusedSimpArgs false
set_option linter.unusedVariables false

theorem cloneO_calls (w : World) (A : Option Addr) (c : Nat) (l : List Int) (h : RdO w A l) (hl : l.length ≤ 17592186044416) :
    Calls Tryz.prog 52 #[.slice A l.length c] w fun e w' => ∃ v', e = .returned v' ∧ w'.ownsRow w.heap.size 3 1 v' l.length (ints l) ∧ Below w.heap.size w w' := by
  cases l with
  | nil =>
    cases A with
    | none =>
      refine (Tryz.slices_Clone_int_nil 0 c w).mono ?_
      rintro e w' ⟨rfl, rfl⟩
      exact ⟨_, rfl, World.ownsRow_nil _ _ _ _, Below.refl _ _⟩
    | some a =>
      refine (Tryz.slices_Clone_int_zero a c w).mono ?_
      rintro e w' ⟨v', rfl, h1, _, h2⟩
      exact ⟨_, rfl, h1, h2⟩
  | cons x0 r =>
    obtain ⟨b, off, h1, _⟩ := h 0 x0 rfl
    subst h1
    refine (Tryz.slices_Clone_int b off (x0 :: r).length c (x0 :: r) w (Nat.le_refl _) (by omega) (fun j hj => ?_)).mono ?_
    · obtain ⟨b', off', h2, h3⟩ := h j ((x0 :: r).getD j 0) (by rw [List.getElem?_eq_getElem hj, List.getD_eq_getElem?_getD, List.getElem?_eq_getElem hj]; rfl)
      cases h2
      exact h3
    · rintro e w' ⟨v', rfl, h1, _, h2⟩
      rw [List.take_length] at h1
      exact ⟨_, rfl, h1, h2⟩
theorem sortB_calls (w : World) (base : Nat) (v : Value) (l : List Int) (h : w.ownsRow base 3 1 v l.length (ints l)) (hl : l.length ≤ 17592186044416) :
    Calls Tryz.prog 53 #[v] w fun e w' => e = .returned (.tuple #[]) ∧ w'.ownsRow base 3 1 v l.length (ints (sorted l)) ∧ w.grownBy w' v.ownBlock := by
  have h' := h
  rcases h.2 with ⟨rfl, h0⟩ | ⟨g, cap, cur, rfl, hbase, hb, h1, h2, h3, h4⟩
  · obtain rfl : l = [] := List.length_eq_zero_iff.1 h0
    refine (Tryz.slices_Sort_int_none none 0 w).mono ?_
    rintro e w' ⟨rfl, rfl⟩
    exact ⟨rfl, by simpa [sorted] using h', ⟨rfl, rfl, rfl, Nat.le_refl _, fun _ _ _ => rfl⟩⟩
  · refine (Tryz.slices_Sort_int g 0 cap l w (holds_of_blockI hb (by simpa [ints] using h4)) (Array.getElem?_eq_some_iff.1 hb).1 (by omega)).mono ?_
    rintro e w' ⟨rfl, n, os, rfl⟩
    exact ⟨rfl, ownsRow_sortedI (by simp) hbase hb h1 h2 h3, grownBy_sortedI _⟩
end Go.Proofs.YtgihncjllelonaaGreat.Ce

/- cert.Parts: a list of own lists while it grows. -/
namespace Go.Proofs.YtgihncjllelonaaGreat.Ce
open Go Go.RowKit Go.MapKept Go.Proofs.YtgihncjllelonaaGreat.Mem Go.Proofs.YtgihncjllelonaaGreat.Sl Go.Proofs.YtgihncjllelonaaGreat.Lw Go.Proofs.YtgihncjllelonaaGreat.Tb Go.Proofs.YtgihncjllelonaaGreatW.PrintWords Go.Proofs.YtgihncjllelonaaGreatW.PrintLast
set_option linter.unusedSimpArgs false
set_option linter.unusedVariables false

theorem own_apart {W : World} {B B' s s' n n' : Nat} {T T' : TypeId} {v v' : Value} {xs xs' : List Value} (h : W.ownsRow B T s v n xs) (h' : W.ownsRow B' T' s' v' n' xs') (hT : T ≠ T') {k : Nat} (hk : v.ownBlock = some k) : v'.ownBlock ≠ some k := fun hk' => by
  rcases h.2 with ⟨rfl, _⟩ | ⟨g, cap, cur, rfl, _, e3, _⟩
  · cases hk
  · rcases h'.2 with ⟨rfl, _⟩ | ⟨g', cap', cur', rfl, _, e3', _⟩
    · cases hk'
    · cases hk
      cases hk'
      rw [e3] at e3'
      cases e3'
      exact hT rfl
structure Gr (w W : World) (v9 : Value) (vals : List Value) (ls : List (List Int)) : Prop where
  o : W.ownsRow w.heap.size 22 1 v9 vals.length vals
  n : vals.length = ls.length
  r : ∀ (i : Nat) (v : Value) (l : List Int), vals[i]? = some v → ls[i]? = some l → W.ownsRow w.heap.size 3 1 v l.length (ints l)
  b : Below w.heap.size w W
section
variable {w W W' : World} {v9 : Value} {vals : List Value} {ls : List (List Int)}
theorem Gr.start : Gr w w (.slice none 0 0) [] [] := ⟨World.ownsRow_nil _ _ _ _, rfl, fun i v l h => by simp at h, Below.refl _ _⟩
theorem Gr.below (h : Gr w W v9 vals ls) (hb : Below W.heap.size W W') : Gr w W' v9 vals ls :=
  ⟨Lw.own_below h.o hb, h.n, fun i v l h1 h2 => Lw.own_below (h.r i v l h1 h2) hb, h.b.trans (hb.mono h.b.size)⟩
theorem Gr.beyond {W0 : World} {row : Option Nat} (h : Gr w W v9 vals ls) (h0 : Gr w W0 v9 vals ls) (hg : W.grownBy W' row) (hr : ∀ k, row = some k → W0.heap.size ≤ k) : Gr w W' v9 vals ls := by
  refine ⟨h.o.kept hg ?_, h.n, fun i v l h1 h2 => (h.r i v l h1 h2).kept hg ?_, h.b.grown hg h.b.size fun k hk => Nat.le_trans h0.b.size (hr k hk)⟩
  · cases hv : v9.ownBlock with
    | none => exact .inl rfl
    | some k => exact .inr fun e => by have := hr k e.symm; have := (h0.o.lt k hv).2; omega
  · cases hv : v.ownBlock with
    | none => exact .inl rfl
    | some k => exact .inr fun e => by have := hr k e.symm; have := ((h0.r i v l h1 h2).lt k hv).2; omega
theorem Gr.push {v' x : Value} {l : List Int} (h : Gr w W v9 vals ls) (hx : W.ownsRow w.heap.size 3 1 x l.length (ints l)) (hg : W.grownBy W' v9.ownBlock) (ho : W'.ownsRow w.heap.size 22 1 v' (vals.length + 1) (vals ++ [x])) : Gr w W' v' (vals ++ [x]) (ls ++ [l]) := by
  have hk : ∀ {y : Value} {m : List Int}, W.ownsRow w.heap.size 3 1 y m.length (ints m) → W'.ownsRow w.heap.size 3 1 y m.length (ints m) := fun {y m} hy => hy.kept hg (by
    cases hv : y.ownBlock with
    | none => exact .inl rfl
    | some k => exact .inr fun e => own_apart h.o hy (by decide) e.symm hv)
  refine ⟨by rw [List.length_append, List.length_singleton]; exact ho, by rw [List.length_append, List.length_append, h.n]; rfl, fun i v m h1 h2 => ?_, h.b.grown hg h.b.size fun k hk => (h.o.lt k hk).1⟩
  by_cases hi : i < vals.length
  · rw [List.getElem?_append_left hi] at h1
    rw [List.getElem?_append_left (by rw [← h.n]; exact hi)] at h2
    exact hk (h.r i v m h1 h2)
  · rw [List.getElem?_append_right (by omega)] at h1
    rw [List.getElem?_append_right (by rw [← h.n]; omega), ← h.n] at h2
    obtain ⟨j, hj⟩ : ∃ j, i - vals.length = j := ⟨_, rfl⟩
    rw [hj] at h1 h2
    cases j with
    | succ j => simp at h1
    | zero =>
      cases h1
      cases h2
      exact hk hx
end
end Go.Proofs.YtgihncjllelonaaGreat.Ce

/- Plain: the order of lists; lists of lists in that order. -/
namespace Go.Proofs.YtgihncjllelonaaGreat.Ce
open Go Go.Shelf Go.Sort
set_option linter.unusedVariables false

theorem cmpI_swap (a b : Int) : cmpI b a = - cmpI a b := by
  unfold cmpI
  split <;> split <;> first | omega | (split <;> omega)
theorem cmpL_swap : ∀ a b : List Int, cmpL b a = - cmpL a b
  | [], [] => rfl
  | [], _ :: _ => rfl
  | _ :: _, [] => rfl
  | a :: x, b :: y => by
    have h := cmpL_swap x y
    have h2 := cmpI_swap a b
    rw [cmpL, cmpL]
    by_cases hc : cmpI a b = 0
    · rw [if_pos (by omega), if_pos hc, h]
    · rw [if_neg (by omega), if_neg hc, h2]
theorem cmpL_zero : ∀ {a b : List Int}, cmpL a b = 0 → a = b
  | [], [], _ => rfl
  | [], _ :: _, h => by rw [cmpL] at h; cases h
  | _ :: _, [], h => by rw [cmpL] at h; cases h
  | a :: x, b :: y, h => by
    rw [cmpL] at h
    by_cases hc : cmpI a b = 0
    · rw [if_pos hc] at h
      rw [cmpI_zero.1 hc, cmpL_zero h]
    · rw [if_neg hc] at h
      exact absurd h hc
theorem cmpL_self (a : List Int) : cmpL a a = 0 := by
  have := cmpL_swap a a
  omega
theorem cmpL_trans : ∀ (a b c : List Int), cmpL a b ≤ 0 → cmpL b c ≤ 0 → cmpL a c ≤ 0
  | [], _, [], _, _ => by rw [cmpL]; decide
  | [], _, _ :: _, _, _ => by rw [cmpL]; decide
  | _ :: _, [], _, h, _ => by rw [cmpL] at h; omega
  | _ :: _, _ :: _, [], _, h => by rw [cmpL] at h; omega
  | a :: x, b :: y, c :: z, h1, h2 => by
    have ih := cmpL_trans x y z
    rw [cmpL] at h1 h2 ⊢
    have q : ∀ u v : Int, cmpI u v = if u < v then -1 else if v < u then 1 else 0 := fun u v => rfl
    rw [q] at h1 h2 ⊢
    rcases Int.lt_trichotomy a b with e1 | e1 | e1
    · rcases Int.lt_trichotomy b c with e2 | e2 | e2
      · rw [if_pos (show a < c by omega), if_neg (by decide)]; decide
      · rw [if_pos (show a < c by omega), if_neg (by decide)]; decide
      · rw [if_neg (show ¬ b < c by omega), if_pos e2, if_neg (by decide)] at h2; omega
    · rcases Int.lt_trichotomy b c with e2 | e2 | e2
      · rw [if_pos (show a < c by omega), if_neg (by decide)]; decide
      · rw [if_neg (show ¬ a < b by omega), if_neg (show ¬ b < a by omega), if_pos rfl] at h1
        rw [if_neg (show ¬ b < c by omega), if_neg (show ¬ c < b by omega), if_pos rfl] at h2
        rw [if_neg (show ¬ a < c by omega), if_neg (show ¬ c < a by omega), if_pos rfl]
        exact ih h1 h2
      · rw [if_neg (show ¬ b < c by omega), if_pos e2, if_neg (by decide)] at h2; omega
    · rw [if_neg (show ¬ a < b by omega), if_pos e1, if_neg (by decide)] at h1; omega
theorem swoL {α : Type} (f : α → List Int) : SWO (ltOf fun x y => cmpL (f x) (f y)) where
  irrefl x := decide_eq_false (show ¬ cmpL (f x) (f x) < 0 by rw [cmpL_self]; decide)
  trans x y z h1 h2 := by
    have h1 : cmpL (f x) (f y) < 0 := of_decide_eq_true h1
    have h2 : cmpL (f y) (f z) < 0 := of_decide_eq_true h2
    have h3 := cmpL_trans (f x) (f y) (f z) (by omega) (by omega)
    have h4 := cmpL_swap (f x) (f y)
    have h5 : cmpL (f x) (f z) ≠ 0 := fun e => by
      rw [cmpL_zero e] at h4 h1
      have := cmpL_swap (f y) (f z)
      omega
    exact decide_eq_true (show cmpL (f x) (f z) < 0 by omega)
  ntrans x y z h1 h2 := by
    have h1 : ¬ cmpL (f x) (f y) < 0 := of_decide_eq_false h1
    have h2 : ¬ cmpL (f y) (f z) < 0 := of_decide_eq_false h2
    have h3 := cmpL_swap (f x) (f y)
    have h4 := cmpL_swap (f y) (f z)
    have h5 := cmpL_swap (f x) (f z)
    have := cmpL_trans (f z) (f y) (f x) (by omega) (by omega)
    exact decide_eq_false (show ¬ cmpL (f x) (f z) < 0 by omega)
theorem sorted_one : ∀ (l m : List (List Int)), l.Perm m → l.Pairwise (fun x y => cmpL x y ≤ 0) → m.Pairwise (fun x y => cmpL x y ≤ 0) → l = m
  | [], m, h, _, _ => (List.nil_perm.1 h).symm
  | a :: l, [], h, _, _ => absurd (List.perm_nil.1 h) (by simp)
  | a :: l, b :: m, h, hl, hm => by
    rw [List.pairwise_cons] at hl hm
    have hab : a = b := by
      have h1 : a ∈ b :: m := h.mem_iff.1 List.mem_cons_self
      have h2 : b ∈ a :: l := h.mem_iff.2 List.mem_cons_self
      rcases List.mem_cons.1 h1 with e | e
      · exact e
      · rcases List.mem_cons.1 h2 with e' | e'
        · exact e'.symm
        · have q1 := hm.1 a e
          have q2 := hl.1 b e'
          have q3 := cmpL_swap a b
          exact cmpL_zero (by omega)
    subst hab
    rw [sorted_one l m (h.cons_inv) hl.2 hm.2]
end Go.Proofs.YtgihncjllelonaaGreat.Ce
