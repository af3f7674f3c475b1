/- The library's slices functions at []int, in this work's words: rows that the call owns, lists that can be read. -/
import Derived.Test.YthomnpgpbhpojaaGd2
import Derived.Test.YthomnpgpbhpojaaGd1
import Derived.Sort.OwnSortedInts
namespace Go.Proofs.Ythomnpgpbhpojaa.Sl
set_option linter.unusedSimpArgs false
set_option linter.unusedVariables false
open Go Go.RowKit Go.Proofs.Ythomnpgpbhpojaa.Mem

def RdI (w : World) (A : Option Addr) (l : List Int) : Prop := ∀ (j : Nat) (x : Int), l[j]? = some x → ∃ b, A = some ⟨b, 0, none⟩ ∧ w.cell? ⟨b, j, none⟩ = some (.int .i64 x)

theorem RdI.nil (w : World) (A : Option Addr) : RdI w A [] := fun j x h => by simp at h
theorem RdI.below {w w' : World} {A : Option Addr} {l : List Int} (h : RdI w A l) (hb : Below w.heap.size w w') : RdI w' A l := fun j x hx => by
  obtain ⟨b, h1, h2⟩ := h j x hx
  exact ⟨b, h1, (hb.cell (p := ⟨b, j, none⟩) (World.block_lt_of_cell? w _ h2)).trans h2⟩
theorem RdI.of_own {w : World} {base n c : Nat} {e : TypeId} {A : Option Addr} {l : List Int} (h : w.ownsRow base e 1 (.slice A n c) n (ints l)) : RdI w A l ∧ n = l.length := by
  have hn : n = l.length := by have := h.1; rw [ints_length] at this; omega
  refine ⟨fun j x hx => ?_, hn⟩
  have hj : j < l.length := (List.getElem?_eq_some_iff.1 hx).1
  obtain ⟨g, cap, hv, _⟩ := h.form (by omega)
  cases hv
  refine ⟨g, rfl, ?_⟩
  rw [h.cellAt j (by omega)]
  exact ints_at l hx
theorem RdI.cases {w : World} {A : Option Addr} {l : List Int} (h : RdI w A l) : l = [] ∨ ∃ b, A = some ⟨b, 0, none⟩ ∧ ∀ j, j < l.length → w.cell? ⟨b, 0 + j, none⟩ = some (.int .i64 (l.getD j 0)) := by
  cases l with
  | nil => exact .inl rfl
  | cons x r =>
    right
    obtain ⟨b, h1, _⟩ := h 0 x rfl
    refine ⟨b, h1, fun j hj => ?_⟩
    obtain ⟨b', h2, h3⟩ := h j ((x :: r).getD j 0) (by rw [List.getElem?_eq_getElem hj, List.getD_eq_getElem?_getD, List.getElem?_eq_getElem hj]; rfl)
    rw [h1] at h2
    cases h2
    rw [Nat.zero_add]
    exact h3

theorem clone_calls (w : World) (A : Option Addr) (c : Nat) (l : List Int) (h : RdI w A l) (hl : l.length ≤ 1000000) :
    Calls Try.prog 45 #[.slice A l.length c] w fun e w' => ∃ v', e = .returned v' ∧ w'.ownsRow w.heap.size 3 1 v' l.length (ints l) ∧ Below w.heap.size w w' := by
  rcases h.cases with rfl | ⟨b, rfl, hc⟩
  · cases A with
    | none =>
      refine (Try.slices_Clone_int_nil 0 c w).mono ?_
      rintro e w' ⟨rfl, rfl⟩
      exact ⟨_, rfl, World.ownsRow_nil _ _ _ _, Below.refl _ _⟩
    | some a =>
      refine (Try.slices_Clone_int_zero a c w).mono ?_
      rintro e w' ⟨v', rfl, h1, _, h2⟩
      exact ⟨_, rfl, h1, h2⟩
  · refine (Try.slices_Clone_int b 0 l.length c l w (Nat.le_refl _) (by omega) hc).mono ?_
    rintro e w' ⟨v', rfl, h1, _, h2⟩
    rw [List.take_length] at h1
    exact ⟨_, rfl, h1, h2⟩

def sorted (l : List Int) : List Int := l.mergeSort fun x y => decide (x ≤ y)
theorem sorted_length (l : List Int) : (sorted l).length = l.length := by simp [sorted]

theorem sort_calls (w : World) (base : Nat) (v : Value) (l : List Int) (h : w.ownsRow base 3 1 v l.length (ints l)) (hl : l.length ≤ 1000000) :
    Calls Try.prog 46 #[v] w fun e w' => e = .returned (.tuple #[]) ∧ w'.ownsRow base 3 1 v l.length (ints (sorted l)) ∧ w.grownBy w' v.ownBlock := by
  have h' := h
  rcases h.2 with ⟨rfl, h0⟩ | ⟨g, cap, cur, rfl, hbase, hb, h1, h2, h3, h4⟩
  · obtain rfl : l = [] := List.length_eq_zero_iff.1 h0
    refine (Try.slices_Sort_int_none none 0 w).mono ?_
    rintro e w' ⟨rfl, rfl⟩
    exact ⟨rfl, by simpa [sorted] using h', ⟨rfl, rfl, rfl, Nat.le_refl _, fun _ _ _ => rfl⟩⟩
  · refine (Try.slices_Sort_int g 0 cap l w (holds_of_blockI hb (by simpa [ints] using h4)) (Array.getElem?_eq_some_iff.1 hb).1 (by omega)).mono ?_
    rintro e w' ⟨rfl, n, os, rfl⟩
    exact ⟨rfl, ownsRow_sortedI (by simp) hbase hb h1 h2 h3, grownBy_sortedI _⟩

theorem compact_calls (w : World) (base : Nat) (v : Value) (l : List Int) (h : w.ownsRow base 3 1 v l.length (ints l)) (hl : l.length ≤ 1000000) :
    Calls Try.prog 88 #[v] w fun e w' => (∃ A c, e = .returned (.slice A (Lib.compact l).length c)) ∧ w.grownBy w' v.ownBlock := by
  rcases h.2 with ⟨rfl, h0⟩ | ⟨g, cap, cur, rfl, hbase, hb, h1, h2, h3, h4⟩
  · obtain rfl : l = [] := List.length_eq_zero_iff.1 h0
    refine (Try.slices_Compact_int_empty none 0 w).mono ?_
    rintro e w' ⟨rfl, rfl⟩
    exact ⟨⟨none, 0, rfl⟩, ⟨rfl, rfl, rfl, Nat.le_refl _, fun _ _ _ => rfl⟩⟩
  · refine (Try.slices_Compact_int g 0 cap l w (holds_of_blockI hb (by simpa [ints] using h4)) (by omega) h1).mono ?_
    rintro e w' ⟨rfl, q, rfl⟩
    refine ⟨⟨_, _, rfl⟩, ?_⟩
    have := grownBy_sortedI (w := w) (g := g) (n := q) (os := #[]) (Lib.compact l ++ List.replicate (l.length - (Lib.compact l).length) 0).toArray
    rw [Sort.grow_empty] at this
    exact this

theorem search_calls (w : World) (A : Option Addr) (c : Nat) (l : List Int) (x : Int) (h : RdI w A l) (hl : l.length ≤ 1000000) (hs : l.Pairwise (· ≤ ·)) :
    Calls Try.prog 89 #[.slice A l.length c, .int .i64 x] w fun e w' => e = .returned (.tuple #[.int .i64 ((l.countP (· < x) : Nat) : Int), .bool (l.contains x)]) ∧ ∃ q, w' = w.drewN q := by
  rcases h.cases with rfl | ⟨b, rfl, hc⟩
  · refine (Try.slices_BinarySearch_int_empty A c x w).mono ?_
    rintro e w' ⟨rfl, rfl⟩
    exact ⟨rfl, 0, rfl⟩
  · refine (Try.slices_BinarySearch_int b 0 l.length c l x w (Nat.le_refl _) (by omega) hc (by rw [List.take_length]; exact hs)).mono ?_
    rintro e w' ⟨rfl, q, rfl⟩
    rw [List.take_length]
    exact ⟨rfl, q, rfl⟩

end Go.Proofs.Ythomnpgpbhpojaa.Sl

/- What a step keeps: all old blocks but those that p names. -/
namespace Go.Proofs.Ythomnpgpbhpojaa.Mem
set_option linter.unusedSimpArgs false
set_option linter.unusedVariables false
open Go Go.RowKit

structure Kpt (p : Nat → Prop) (w w' : World) : Prop where
  os : w'.os = w.os
  tape : w'.tape = w.tape
  output : w'.output = w.output
  size : w.heap.size ≤ w'.heap.size
  block : ∀ k, k < w.heap.size → ¬ p k → w'.heap[k]? = w.heap[k]?

section
variable {p p' : Nat → Prop} {w w' a b c : World}
theorem Kpt.refl (p : Nat → Prop) (w : World) : Kpt p w w := ⟨rfl, rfl, rfl, Nat.le_refl _, fun _ _ _ => rfl⟩
theorem Kpt.trans (h : Kpt p a b) (k : Kpt p b c) : Kpt p a c :=
  ⟨k.os.trans h.os, k.tape.trans h.tape, k.output.trans h.output, Nat.le_trans h.size k.size, fun i hi hn => (k.block i (Nat.lt_of_lt_of_le hi h.size) hn).trans (h.block i hi hn)⟩
theorem Kpt.mono (h : Kpt p w w') (hp : ∀ k, k < w.heap.size → p k → p' k) : Kpt p' w w' := ⟨h.os, h.tape, h.output, h.size, fun k hk hn => h.block k hk (fun x => hn (hp k hk x))⟩
theorem Kpt.trans' (h : Kpt p a b) (k : Kpt p' b c) (hp : ∀ i, i < a.heap.size → p' i → p i) : Kpt p a c :=
  ⟨k.os.trans h.os, k.tape.trans h.tape, k.output.trans h.output, Nat.le_trans h.size k.size, fun i hi hn => (k.block i (Nat.lt_of_lt_of_le hi h.size) (fun x => hn (hp i hi x))).trans (h.block i hi hn)⟩
theorem Kpt.drewN (h : Kpt p a b) (n : Nat) : Kpt p a (b.drewN n) := ⟨h.os, h.tape, h.output, h.size, h.block⟩
theorem Kpt.drew (h : Kpt p a b) : Kpt p a b.drew := ⟨h.os, h.tape, h.output, h.size, h.block⟩
theorem Kpt.alloc (h : Kpt p a b) (o : Obj) : Kpt p a (b.alloc o) :=
  h.trans ⟨rfl, rfl, rfl, by simp, fun k hk _ => Below.heap_alloc _ _ _ hk⟩
theorem Kpt.set (h : Kpt p a b) {q : Addr} (hq : q.block < a.heap.size → p q.block) (u : Value) : Kpt p a (b.setCell q u) :=
  ⟨h.os, h.tape, h.output, by have := h.size; simpa [World.setCell] using this, fun k hk hn => by
    rw [Below.heap_setCell _ _ _ _ (fun e => hn (by subst e; exact hq hk))]
    exact h.block k hk hn⟩
theorem Kpt.grown (h : Kpt p a b) {row : Option Nat} (hg : b.grownBy c row) (hr : ∀ k, row = some k → k < a.heap.size → p k) : Kpt p a c :=
  ⟨hg.os.trans h.os, hg.tape.trans h.tape, hg.output.trans h.output, Nat.le_trans h.size hg.size, fun k hk hn => (hg.block k (Nat.lt_of_lt_of_le hk h.size) (fun e => hn (hr k e.symm hk))).trans (h.block k hk hn)⟩
theorem Kpt.below (h : Kpt p a b) (k : Below b.heap.size b c) : Kpt p a c :=
  ⟨k.os.trans h.os, k.tape.trans h.tape, k.output.trans h.output, Nat.le_trans h.size k.size, fun i hi hn => (k.block i (Nat.lt_of_lt_of_le hi h.size)).trans (h.block i hi hn)⟩
theorem Kpt.of_below (k : Below w.heap.size w w') : Kpt p w w' := (Kpt.refl p w).below k
theorem Kpt.to_below (h : Kpt p a b) {B : Nat} (hB : ∀ k, k < B → k < a.heap.size ∧ ¬ p k) : Below B a b := ⟨h.os, h.tape, h.output, h.size, fun k hk => h.block k (hB k hk).1 (hB k hk).2⟩
theorem Kpt.none (h : Kpt (fun _ => False) a b) : Below a.heap.size a b := h.to_below fun _ hk => ⟨hk, id⟩
theorem Below.drN {B : Nat} (h : Below B a b) (n : Nat) : Below B a (b.drewN n) := ⟨h.os, h.tape, h.output, h.size, h.block⟩
theorem At.kept {g : Nat} {cs : List Value} {T : TypeId} (h : At w g cs T) (hk : Kpt p w w') (hp : ¬ p g) : At w' g cs T := (hk.block g h.lt hp).trans h
theorem At.not {g g' : Nat} {cs cs' : List Value} {T T' : TypeId} (h : At w g cs T) (h' : At w g' cs' T') (hne : T ≠ T') : ¬ g = g' := h.ne h' hne
theorem At.same {g : Nat} {cs cs' : List Value} {T T' : TypeId} (h : At w g cs T) (h' : At w g cs' T') : cs = cs' ∧ T = T' := by
  have := h.symm.trans h'
  simp at this
  exact ⟨this.1, this.2⟩
end
end Go.Proofs.Ythomnpgpbhpojaa.Mem
