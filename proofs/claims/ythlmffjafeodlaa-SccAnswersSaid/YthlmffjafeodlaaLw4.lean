/- Rows read as lists; the document's example: what scc.Of answers there. -/
import Derived.Test.YthlmffjafeodlaaLw3
import Derived.Test.YthlmffjafeodlaaScc7
import Derived.Test.YthlmffjafeodlaaSpec
namespace Go.Proofs.Ythlmffjafeodlaa.Lw
open Go Go.RowKit Go.Proofs.Ythlmffjafeodlaa.Mem Go.Proofs.Ythlmffjafeodlaa.Sl Go.Proofs.Ythlmffjafeodlaa.Scc Go.Proofs.Ythlmffjafeodlaa.Tj Go.Proofs.YthlmffjafeodlaaW.PrintWords Go.Proofs.YthlmffjafeodlaaW.PrintLast
attribute [local go_sem ↓] Go.wp_at_zero Go.wp_at_succ
set_option linter.unusedSimpArgs false
set_option linter.unusedVariables false

/-- The cells of a list of arcs. -/
def arcs2 (l : List (Int × Int)) : List Value := l.flatMap fun p => [.int .i64 p.1, .int .i64 p.2]
theorem arcs2_cons (p : Int × Int) (l : List (Int × Int)) : arcs2 (p :: l) = .int .i64 p.1 :: .int .i64 p.2 :: arcs2 l := rfl
theorem arcs2_length : ∀ l : List (Int × Int), (arcs2 l).length = l.length * 2
  | [] => rfl
  | p :: l => by rw [arcs2_cons, List.length_cons, List.length_cons, arcs2_length l, List.length_cons]; omega
theorem arcs2_append (l l' : List (Int × Int)) : arcs2 (l ++ l') = arcs2 l ++ arcs2 l' := by simp [arcs2]
theorem arcs2_at : ∀ (l : List (Int × Int)) (j : Nat) (u v : Int), l[j]? = some (u, v) → (arcs2 l)[j * 2]? = some (.int .i64 u) ∧ (arcs2 l)[j * 2 + 1]? = some (.int .i64 v)
  | [], j, u, v, h => by simp at h
  | p :: l, 0, u, v, h => by
    have : p = (u, v) := by simpa using h
    subst this
    exact ⟨rfl, rfl⟩
  | p :: l, j + 1, u, v, h => by
    have := arcs2_at l j u v (by simpa using h)
    rw [arcs2_cons, show (j + 1) * 2 = j * 2 + 2 by omega]
    exact this
theorem arcs2_take : ∀ (l : List (Int × Int)) (q : Nat), (arcs2 l).take (q * 2) = arcs2 (l.take q)
  | [], q => by simp [arcs2]
  | p :: l, 0 => rfl
  | p :: l, q + 1 => by
    rw [arcs2_cons, show (q + 1) * 2 = q * 2 + 1 + 1 by omega, List.take_succ_cons, List.take_succ_cons, arcs2_take l q, List.take_succ_cons, arcs2_cons]
theorem arcs2_one (l : List (Int × Int)) : ∀ u ∈ arcs2 l, u.oneCell' = true := by
  intro u hu
  simp only [arcs2, List.mem_flatMap] at hu
  obtain ⟨p, _, hp⟩ := hu
  rcases List.mem_cons.1 hp with rfl | hp
  · rfl
  · rcases List.mem_cons.1 hp with rfl | hp
    · rfl
    · simp at hp
theorem ints_take (l : List Int) (q : Nat) : (ints l).take q = ints (l.take q) := by simp [ints]
theorem ints_one (l : List Int) : ∀ u ∈ ints l, u.oneCell' = true := by
  intro u hu
  simp only [ints, List.mem_map] at hu
  obtain ⟨x, _, rfl⟩ := hu
  rfl

theorem cell_flat {w : World} {base size n c : Nat} {e : TypeId} {A : Option Addr} {xs : List Value} (h : w.ownsRow base e size (.slice A n c) n xs) (hn : 0 < n) : ∃ g, A = some ⟨g, 0, none⟩ ∧ base ≤ g ∧ ∀ j u, xs[j]? = some u → w.cell? ⟨g, j, none⟩ = some u := by
  obtain ⟨g, cap, hv, hb, _⟩ := h.form hn
  cases hv
  refine ⟨g, rfl, hb, fun j u hu => ?_⟩
  have := h.cells (g := g) rfl j u hu
  rw [add_plain] at this
  simpa using this

theorem RdA.of_own {w : World} {base n c : Nat} {e : TypeId} {A : Option Addr} {l : List (Int × Int)} (h : w.ownsRow base e 2 (.slice A n c) n (arcs2 l)) : RdA w A l ∧ n = l.length := by
  have hn : n = l.length := by have := h.1; rw [arcs2_length] at this; omega
  refine ⟨fun j u v hx => ?_, hn⟩
  have hj : j < l.length := (List.getElem?_eq_some_iff.1 hx).1
  obtain ⟨g, rfl, _, hc⟩ := cell_flat h (by omega)
  exact ⟨g, rfl, hc _ _ (arcs2_at l j u v hx).1, hc _ _ (arcs2_at l j u v hx).2⟩

theorem RdI.lit (w : World) (l : List Int) (T : TypeId) : RdI (w.alloc (.cells (ints l).toArray T)) (some ⟨w.heap.size, 0, none⟩) l := fun j x hx =>
  ⟨_, rfl, (At.new w (ints l).toArray T).cell j (ints_at l hx)⟩
theorem RdA.lit (w : World) (l : List (Int × Int)) (T : TypeId) : RdA (w.alloc (.cells (arcs2 l).toArray T)) (some ⟨w.heap.size, 0, none⟩) l := fun j u v hx =>
  ⟨_, rfl, (At.new w (arcs2 l).toArray T).cell _ (arcs2_at l j u v hx).1, (At.new w (arcs2 l).toArray T).cell _ (arcs2_at l j u v hx).2⟩

/-- Rows of numbers, each its own, read as a list of lists. -/
theorem RdL.of_rows {w : World} {base bo n : Nat} {vals : List Value} {ls : List (List Int)} (h : RwsI w base bo n vals ls) : RdL w (some ⟨bo, 0, none⟩) ls := fun i r hr => by
  have hi : i < ls.length := (List.getElem?_eq_some_iff.1 hr).1
  have hiv : i < vals.length := by rw [h.lv, ← h.lo]; exact hi
  have hv : vals[i]? = some vals[i] := List.getElem?_eq_getElem hiv
  have ho := h.own i _ r hv hr
  obtain ⟨A, c, he⟩ : ∃ A c, vals[i] = .slice A r.length c := by
    rcases ho.2 with ⟨h1, h2⟩ | ⟨g, cap, _, h1, _⟩
    · rw [h2]; exact ⟨none, 0, h1⟩
    · exact ⟨_, _, h1⟩
  refine ⟨bo, A, c, rfl, he ▸ h.hat.cell i hv, ?_⟩
  rw [he] at ho
  exact (RdI.of_own ho).1

theorem own_slice {w : World} {base size n : Nat} {e : TypeId} {v : Value} {xs : List Value} (h : w.ownsRow base e size v n xs) : ∃ A c, v = .slice A n c := by
  rcases h.2 with ⟨h1, rfl⟩ | ⟨g, cap, _, h1, _⟩
  · exact ⟨none, 0, h1⟩
  · exact ⟨_, _, h1⟩

/-- Cut, of lists. -/
theorem cut2_calls (w : World) (a1 a2 : Value) (l : List Int) (arcs : List (Int × Int)) (h1 : ArgV w a1 l.length 1 (ints l)) (h2 : ArgV w a2 arcs.length 2 (arcs2 arcs)) :
    Calls Try.prog 9 #[a1, a2] w fun e w' => ∃ v1 v2, e = .returned (.tuple #[v1, v2]) ∧ Two w 3 1 v1 (l.take 60).length (ints (l.take 60)) 34 2 v2 (arcs.take 240).length (arcs2 (arcs.take 240)) w' := by
  refine (cut_calls w a1 a2 l.length arcs.length (ints l) (arcs2 arcs) h1 h2).mono ?_
  rintro e w' ⟨v1, v2, he, hT⟩
  refine ⟨v1, v2, he, ?_⟩
  have e1 : (ints l).take (min l.length 60) = ints (l.take 60) := by
    rw [ints_take]
    rcases Nat.le_total l.length 60 with h | h
    · rw [Nat.min_eq_left h, List.take_of_length_le (Nat.le_refl _), List.take_of_length_le h]
    · rw [Nat.min_eq_right h]
  have e2 : (arcs2 arcs).take (min arcs.length 240 * 2) = arcs2 (arcs.take 240) := by
    rw [arcs2_take]
    rcases Nat.le_total arcs.length 240 with h | h
    · rw [Nat.min_eq_left h, List.take_of_length_le (Nat.le_refl _), List.take_of_length_le h]
    · rw [Nat.min_eq_right h]
  rw [e1, e2] at hT
  rw [List.length_take, List.length_take, Nat.min_comm 60, Nat.min_comm 240]
  exact hT

theorem sorted_same {l l' : List Int} (h : l.Perm l') : sorted l = sorted l' := by
  have ht : ∀ a b c : Int, decide (a ≤ b) = true → decide (b ≤ c) = true → decide (a ≤ c) = true := by
    intro a b c h1 h2
    simp only [decide_eq_true_eq] at *
    omega
  have hto : ∀ a b : Int, (decide (a ≤ b) || decide (b ≤ a)) = true := by
    intro a b
    simp only [Bool.or_eq_true, decide_eq_true_eq]
    omega
  have p1 := List.pairwise_mergeSort ht hto l
  have p2 := List.pairwise_mergeSort ht hto l'
  have hp : (sorted l).Perm (sorted l') := ((List.mergeSort_perm l _).trans h).trans (List.mergeSort_perm l' _).symm
  refine List.Perm.eq_of_pairwise (le := fun a b => decide (a ≤ b) = true) ?_ p1 p2 hp
  intro a b _ _ h1 h2
  simp only [decide_eq_true_eq] at h1 h2
  omega
theorem sorted_rising (l : List Int) : (sorted l).Pairwise (· ≤ ·) := by
  have p1 := List.pairwise_mergeSort (le := fun x y : Int => decide (x ≤ y)) (by intro a b c h1 h2; simp only [decide_eq_true_eq] at *; omega) (by intro a b; simp only [Bool.or_eq_true, decide_eq_true_eq]; omega) l
  exact p1.imp fun h => by simpa using h
theorem sorted_of {l sl : List Int} (hp : l.Perm sl) (hs : sl.Pairwise (· ≤ ·)) : sorted l = sl := by
  rw [sorted_same hp]
  unfold sorted
  exact List.mergeSort_of_pairwise (hs.imp fun h => by simpa using h)

theorem awake_value : ofS [7, 1, 4, 9] [(4, 9), (9, 4), (4, 1), (7, 7)] (sorted [7, 1, 4, 9]) 20 = some (0, [[1], [4, 9], [7]]) := by
  rw [sorted_of (sl := [1, 4, 7, 9]) (by decide) (by decide)]
  kernel_rfl

theorem example_rd (w : World) (T T' : TypeId) : RdL ((((w.alloc (.cells #[.int .i64 1] T)).alloc (.cells #[.int .i64 4, .int .i64 9] T)).alloc (.cells #[.int .i64 7] T)).alloc
    (.cells #[.slice (some ⟨w.heap.size, 0, none⟩) 1 1, .slice (some ⟨w.heap.size + 1, 0, none⟩) 2 2, .slice (some ⟨w.heap.size + 1 + 1, 0, none⟩) 1 1] T')) (some ⟨w.heap.size + 1 + 1 + 1, 0, none⟩) [[1], [4, 9], [7]] := by
  have hat : At ((((w.alloc (.cells #[.int .i64 1] T)).alloc (.cells #[.int .i64 4, .int .i64 9] T)).alloc (.cells #[.int .i64 7] T)).alloc
    (.cells #[.slice (some ⟨w.heap.size, 0, none⟩) 1 1, .slice (some ⟨w.heap.size + 1, 0, none⟩) 2 2, .slice (some ⟨w.heap.size + 1 + 1, 0, none⟩) 1 1] T')) (w.heap.size + 1 + 1 + 1) [.slice (some ⟨w.heap.size, 0, none⟩) 1 1, .slice (some ⟨w.heap.size + 1, 0, none⟩) 2 2, .slice (some ⟨w.heap.size + 1 + 1, 0, none⟩) 1 1] T' :=
    At.made (by simp) rfl
  have r1 := RdI.lit w [1] T
  have r2 := RdI.lit (w.alloc (.cells #[.int .i64 1] T)) [4, 9] T
  have r3 := RdI.lit ((w.alloc (.cells #[.int .i64 1] T)).alloc (.cells #[.int .i64 4, .int .i64 9] T)) [7] T
  have b1 : ∀ (W : World) (o : Obj), Below W.heap.size W (W.alloc o) := fun W o => (Below.refl _ _).alloc (Nat.le_refl _) _
  have e1 : (w.alloc (.cells #[.int .i64 1] T)).heap.size = w.heap.size + 1 := by simp
  have e2 : ((w.alloc (.cells #[.int .i64 1] T)).alloc (.cells #[.int .i64 4, .int .i64 9] T)).heap.size = w.heap.size + 1 + 1 := by simp
  intro i r hr
  match i, hr with
  | 0, hr =>
    cases hr
    exact ⟨_, _, _, rfl, hat.cell 0 rfl, ((r1.below (b1 _ _)).below (b1 _ _)).below (b1 _ _)⟩
  | 1, hr =>
    cases hr
    rw [e1] at r2
    exact ⟨_, _, _, rfl, hat.cell 1 rfl, (r2.below (b1 _ _)).below (b1 _ _)⟩
  | 2, hr =>
    cases hr
    rw [e2] at r3
    exact ⟨_, _, _, rfl, hat.cell 2 rfl, r3.below (b1 _ _)⟩

set_option maxHeartbeats 4000000 in
set_option maxRecDepth 100000 in
theorem awake_calls (w : World) : Calls Try.prog 8 #[] w fun e w' => e = .returned (.bool true) ∧ Below w.heap.size w w' := by
  have HV := Lib.hid ((RdI.lit w [7, 1, 4, 9] 3).below ((Below.refl _ _).alloc (Nat.le_refl _) (.cells (arcs2 [(4, 9), (9, 4), (4, 1), (7, 7)]).toArray 34)))
  have HA := Lib.hid (RdA.lit (w.alloc (.cells (ints [7, 1, 4, 9]).toArray 3)) [(4, 9), (9, 4), (4, 1), (7, 7)] 34)
  rw [show (w.alloc (.cells (ints [7, 1, 4, 9]).toArray 3)).heap.size = w.heap.size + 1 by simp] at HA
  go_enter Try.func8, Try.ntmps8
  go_wp2_with fail
  refine (of_calls _ _ _ 4 4 20 0 [7, 1, 4, 9] [(4, 9), (9, 4), (4, 1), (7, 7)] [[1], [4, 9], [7]] HV.out HA.out (by decide) (by decide) awake_value).mono ?_
  clear HV HA
  rintro e w2 ⟨hb, _, h0⟩
  obtain ⟨bo, vals, rfl, hbo, hrows⟩ := h0 rfl
  have HB := Lib.hid (((((Below.refl _ _).alloc (Nat.le_refl _) _).alloc (by simp) _).trans (hb.mono (by simp; omega))) : Below w.heap.size w w2)
  have HR := Lib.hid (RdL.of_rows hrows)
  clear hb h0 hrows
  go_wp2_with fail
  have h4 := (((((Below.refl w2.heap.size w2).alloc (Nat.le_refl _) (.cells #[.int .i64 1] 3)).alloc (by simp) (.cells #[.int .i64 4, .int .i64 9] 3)).alloc (by simp; omega) (.cells #[.int .i64 7] 3)).alloc (by simp; omega) (.cells #[.slice (some ⟨w2.heap.size, 0, none⟩) 1 1, .slice (some ⟨w2.heap.size + 1, 0, none⟩) 2 2, .slice (some ⟨w2.heap.size + 1 + 1, 0, none⟩) 1 1] 22))
  refine (sameLists_calls _ _ _ 3 3 [[1], [4, 9], [7]] [[1], [4, 9], [7]] (HR.out.below h4) (example_rd w2 3 22) (by decide) (by decide)).mono ?_
  have hsz := HB.out.size
  have HB2 := Lib.hid (HB.out.trans (h4.mono hsz))
  clear HR HB hsz h4
  rintro e w3 ⟨rfl, q, rfl⟩
  go_wp2
  go_ret
  have hb := HB2.out
  exact ⟨rfl, ⟨hb.os, hb.tape, hb.output, hb.size, hb.block⟩⟩

end Go.Proofs.Ythlmffjafeodlaa.Lw
