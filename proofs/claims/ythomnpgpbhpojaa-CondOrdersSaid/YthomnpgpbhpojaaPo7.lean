/- The library's slices functions at []int, in this work's words: rows that the call owns, lists that can be read. -/
import Derived.Test.YthomnpgpbhpojaaPo6
import Derived.Test.YthomnpgpbhpojaaPo1
import Derived.Sort.OwnSortedInts
import Derived.Test.YthomnpgpbhpojaaPo5
import Derived.Test.YthomnpgpbhpojaaPo2
import Derived.Test.YthomnpgpbhpojaaPo4
import Derived.Deep.RegionHeld3
import Derived.Deep.DrawnRows
import Derived.Deep.LoopGhost
import Derived.Deep.DeepCutAuto
import Derived.BigRegion
import Derived.Outline
import Derived.WalkLawsBesides
import Derived.WalkSpells
import Derived.Lib.Hide
import Derived.Maps.AppendAt
import Derived.Deep.OwnRows
import Derived.Deep.RegionWith
import Derived.Great.BuildSlice
namespace Go.Proofs.Ythomnpgpbhpojaa.Sl
set_option linter.unusedSimpArgs false
set_option linter.unusedVariables false
open Go Go.RowKit Go.Proofs.Ythomnpgpbhpojaa.Mem

def RdI (w : World) (A : Option Addr) (l : List Int) : Prop := ∀ (j : Nat) (x : Int), l[j]? = some x → ∃ b, A = some ⟨b, 0, none⟩ ∧ w.cell? ⟨b, j, none⟩ = some (.int .i64 x)

theorem RdI.nil (w : World) (A : Option Addr) : RdI w A [] := fun j x h => by simp at h
theorem RdI.below {w w' : World} {A : Option Addr} {l : List Int} (h : RdI w A l) (hb : Below w.heap.size w w') : RdI w' A l := fun j x hx => by
  obtain ⟨b, h1, h2⟩ := h j x hx
  exact ⟨b, h1, (hb.cell (p := ⟨b, j, none⟩) (World.block_lt_of_cell? w _ h2)).trans h2⟩
theorem RdI.of_own {w : World} {base n c : Nat} {e : TypeId} {A : Option Addr} {l : List Int} (h : w.ownsRow base e 1 (.slice A n c) n (ints l)) : RdI w A l ∧ n = l.length := by
  have hn : n = l.length := by have := h.1; rw [ints_length] at this; omega
  refine ⟨fun j x hx => ?_, hn⟩
  have hj : j < l.length := (List.getElem?_eq_some_iff.1 hx).1
  obtain ⟨g, cap, hv, _⟩ := h.form (by omega)
  cases hv
  refine ⟨g, rfl, ?_⟩
  rw [h.cellAt j (by omega)]
  exact ints_at l hx
theorem RdI.cases {w : World} {A : Option Addr} {l : List Int} (h : RdI w A l) : l = [] ∨ ∃ b, A = some ⟨b, 0, none⟩ ∧ ∀ j, j < l.length → w.cell? ⟨b, 0 + j, none⟩ = some (.int .i64 (l.getD j 0)) := by
  cases l with
  | nil => exact .inl rfl
  | cons x r =>
    right
    obtain ⟨b, h1, _⟩ := h 0 x rfl
    refine ⟨b, h1, fun j hj => ?_⟩
    obtain ⟨b', h2, h3⟩ := h j ((x :: r).getD j 0) (by rw [List.getElem?_eq_getElem hj, List.getD_eq_getElem?_getD, List.getElem?_eq_getElem hj]; rfl)
    rw [h1] at h2
    cases h2
    rw [Nat.zero_add]
    exact h3

theorem clone_calls (w : World) (A : Option Addr) (c : Nat) (l : List Int) (h : RdI w A l) (hl : l.length ≤ 1000000) :
    Calls Try.prog 45 #[.slice A l.length c] w fun e w' => ∃ v', e = .returned v' ∧ w'.ownsRow w.heap.size 3 1 v' l.length (ints l) ∧ Below w.heap.size w w' := by
  rcases h.cases with rfl | ⟨b, rfl, hc⟩
  · cases A with
    | none =>
      refine (Try.slices_Clone_int_nil 0 c w).mono ?_
      rintro e w' ⟨rfl, rfl⟩
      exact ⟨_, rfl, World.ownsRow_nil _ _ _ _, Below.refl _ _⟩
    | some a =>
      refine (Try.slices_Clone_int_zero a c w).mono ?_
      rintro e w' ⟨v', rfl, h1, _, h2⟩
      exact ⟨_, rfl, h1, h2⟩
  · refine (Try.slices_Clone_int b 0 l.length c l w (Nat.le_refl _) (by omega) hc).mono ?_
    rintro e w' ⟨v', rfl, h1, _, h2⟩
    rw [List.take_length] at h1
    exact ⟨_, rfl, h1, h2⟩

def sorted (l : List Int) : List Int := l.mergeSort fun x y => decide (x ≤ y)
theorem sorted_length (l : List Int) : (sorted l).length = l.length := by simp [sorted]

theorem sort_calls (w : World) (base : Nat) (v : Value) (l : List Int) (h : w.ownsRow base 3 1 v l.length (ints l)) (hl : l.length ≤ 1000000) :
    Calls Try.prog 46 #[v] w fun e w' => e = .returned (.tuple #[]) ∧ w'.ownsRow base 3 1 v l.length (ints (sorted l)) ∧ w.grownBy w' v.ownBlock := by
  have h' := h
  rcases h.2 with ⟨rfl, h0⟩ | ⟨g, cap, cur, rfl, hbase, hb, h1, h2, h3, h4⟩
  · obtain rfl : l = [] := List.length_eq_zero_iff.1 h0
    refine (Try.slices_Sort_int_none none 0 w).mono ?_
    rintro e w' ⟨rfl, rfl⟩
    exact ⟨rfl, by simpa [sorted] using h', ⟨rfl, rfl, rfl, Nat.le_refl _, fun _ _ _ => rfl⟩⟩
  · refine (Try.slices_Sort_int g 0 cap l w (holds_of_blockI hb (by simpa [ints] using h4)) (Array.getElem?_eq_some_iff.1 hb).1 (by omega)).mono ?_
    rintro e w' ⟨rfl, n, os, rfl⟩
    exact ⟨rfl, ownsRow_sortedI (by simp) hbase hb h1 h2 h3, grownBy_sortedI _⟩

theorem compact_calls (w : World) (base : Nat) (v : Value) (l : List Int) (h : w.ownsRow base 3 1 v l.length (ints l)) (hl : l.length ≤ 1000000) :
    Calls Try.prog 88 #[v] w fun e w' => (∃ A c, e = .returned (.slice A (Lib.compact l).length c)) ∧ w.grownBy w' v.ownBlock := by
  rcases h.2 with ⟨rfl, h0⟩ | ⟨g, cap, cur, rfl, hbase, hb, h1, h2, h3, h4⟩
  · obtain rfl : l = [] := List.length_eq_zero_iff.1 h0
    refine (Try.slices_Compact_int_empty none 0 w).mono ?_
    rintro e w' ⟨rfl, rfl⟩
    exact ⟨⟨none, 0, rfl⟩, ⟨rfl, rfl, rfl, Nat.le_refl _, fun _ _ _ => rfl⟩⟩
  · refine (Try.slices_Compact_int g 0 cap l w (holds_of_blockI hb (by simpa [ints] using h4)) (by omega) h1).mono ?_
    rintro e w' ⟨rfl, q, rfl⟩
    refine ⟨⟨_, _, rfl⟩, ?_⟩
    have := grownBy_sortedI (w := w) (g := g) (n := q) (os := #[]) (Lib.compact l ++ List.replicate (l.length - (Lib.compact l).length) 0).toArray
    rw [Sort.grow_empty] at this
    exact this

theorem search_calls (w : World) (A : Option Addr) (c : Nat) (l : List Int) (x : Int) (h : RdI w A l) (hl : l.length ≤ 1000000) (hs : l.Pairwise (· ≤ ·)) :
    Calls Try.prog 89 #[.slice A l.length c, .int .i64 x] w fun e w' => e = .returned (.tuple #[.int .i64 ((l.countP (· < x) : Nat) : Int), .bool (l.contains x)]) ∧ ∃ q, w' = w.drewN q := by
  rcases h.cases with rfl | ⟨b, rfl, hc⟩
  · refine (Try.slices_BinarySearch_int_empty A c x w).mono ?_
    rintro e w' ⟨rfl, rfl⟩
    exact ⟨rfl, 0, rfl⟩
  · refine (Try.slices_BinarySearch_int b 0 l.length c l x w (Nat.le_refl _) (by omega) hc (by rw [List.take_length]; exact hs)).mono ?_
    rintro e w' ⟨rfl, q, rfl⟩
    rw [List.take_length]
    exact ⟨rfl, q, rfl⟩

end Go.Proofs.Ythomnpgpbhpojaa.Sl

/- What a step keeps: all old blocks but those that p names. -/
namespace Go.Proofs.Ythomnpgpbhpojaa.Mem
set_option linter.unusedSimpArgs false
set_option linter.unusedVariables false
open Go Go.RowKit

structure Kpt (p : Nat → Prop) (w w' : World) : Prop where
  os : w'.os = w.os
  tape : w'.tape = w.tape
  output : w'.output = w.output
  size : w.heap.size ≤ w'.heap.size
  block : ∀ k, k < w.heap.size → ¬ p k → w'.heap[k]? = w.heap[k]?

section
variable {p p' : Nat → Prop} {w w' a b c : World}
theorem Kpt.refl (p : Nat → Prop) (w : World) : Kpt p w w := ⟨rfl, rfl, rfl, Nat.le_refl _, fun _ _ _ => rfl⟩
theorem Kpt.trans (h : Kpt p a b) (k : Kpt p b c) : Kpt p a c :=
  ⟨k.os.trans h.os, k.tape.trans h.tape, k.output.trans h.output, Nat.le_trans h.size k.size, fun i hi hn => (k.block i (Nat.lt_of_lt_of_le hi h.size) hn).trans (h.block i hi hn)⟩
theorem Kpt.mono (h : Kpt p w w') (hp : ∀ k, k < w.heap.size → p k → p' k) : Kpt p' w w' := ⟨h.os, h.tape, h.output, h.size, fun k hk hn => h.block k hk (fun x => hn (hp k hk x))⟩
theorem Kpt.trans' (h : Kpt p a b) (k : Kpt p' b c) (hp : ∀ i, i < a.heap.size → p' i → p i) : Kpt p a c :=
  ⟨k.os.trans h.os, k.tape.trans h.tape, k.output.trans h.output, Nat.le_trans h.size k.size, fun i hi hn => (k.block i (Nat.lt_of_lt_of_le hi h.size) (fun x => hn (hp i hi x))).trans (h.block i hi hn)⟩
theorem Kpt.drewN (h : Kpt p a b) (n : Nat) : Kpt p a (b.drewN n) := ⟨h.os, h.tape, h.output, h.size, h.block⟩
theorem Kpt.drew (h : Kpt p a b) : Kpt p a b.drew := ⟨h.os, h.tape, h.output, h.size, h.block⟩
theorem Kpt.alloc (h : Kpt p a b) (o : Obj) : Kpt p a (b.alloc o) :=
  h.trans ⟨rfl, rfl, rfl, by simp, fun k hk _ => Below.heap_alloc _ _ _ hk⟩
theorem Kpt.set (h : Kpt p a b) {q : Addr} (hq : q.block < a.heap.size → p q.block) (u : Value) : Kpt p a (b.setCell q u) :=
  ⟨h.os, h.tape, h.output, by have := h.size; simpa [World.setCell] using this, fun k hk hn => by
    rw [Below.heap_setCell _ _ _ _ (fun e => hn (by subst e; exact hq hk))]
    exact h.block k hk hn⟩
theorem Kpt.grown (h : Kpt p a b) {row : Option Nat} (hg : b.grownBy c row) (hr : ∀ k, row = some k → k < a.heap.size → p k) : Kpt p a c :=
  ⟨hg.os.trans h.os, hg.tape.trans h.tape, hg.output.trans h.output, Nat.le_trans h.size hg.size, fun k hk hn => (hg.block k (Nat.lt_of_lt_of_le hk h.size) (fun e => hn (hr k e.symm hk))).trans (h.block k hk hn)⟩
theorem Kpt.below (h : Kpt p a b) (k : Below b.heap.size b c) : Kpt p a c :=
  ⟨k.os.trans h.os, k.tape.trans h.tape, k.output.trans h.output, Nat.le_trans h.size k.size, fun i hi hn => (k.block i (Nat.lt_of_lt_of_le hi h.size)).trans (h.block i hi hn)⟩
theorem Kpt.of_below (k : Below w.heap.size w w') : Kpt p w w' := (Kpt.refl p w).below k
theorem Kpt.to_below (h : Kpt p a b) {B : Nat} (hB : ∀ k, k < B → k < a.heap.size ∧ ¬ p k) : Below B a b := ⟨h.os, h.tape, h.output, h.size, fun k hk => h.block k (hB k hk).1 (hB k hk).2⟩
theorem Kpt.none (h : Kpt (fun _ => False) a b) : Below a.heap.size a b := h.to_below fun _ hk => ⟨hk, id⟩
theorem Below.drN {B : Nat} (h : Below B a b) (n : Nat) : Below B a (b.drewN n) := ⟨h.os, h.tape, h.output, h.size, h.block⟩
theorem At.kept {g : Nat} {cs : List Value} {T : TypeId} (h : At w g cs T) (hk : Kpt p w w') (hp : ¬ p g) : At w' g cs T := (hk.block g h.lt hp).trans h
theorem At.not {g g' : Nat} {cs cs' : List Value} {T T' : TypeId} (h : At w g cs T) (h' : At w g' cs' T') (hne : T ≠ T') : ¬ g = g' := h.ne h' hne
theorem At.same {g : Nat} {cs cs' : List Value} {T T' : TypeId} (h : At w g cs T) (h' : At w g cs' T') : cs = cs' ∧ T = T' := by
  have := h.symm.trans h'
  simp at this
  exact ⟨this.1, this.2⟩
end
end Go.Proofs.Ythomnpgpbhpojaa.Mem

/- The references' small functions: SameInts, SameLists, in, Comp. -/
namespace Go.Proofs.Ythomnpgpbhpojaa.Lw
open Go Go.RowKit Go.Proofs.Ythomnpgpbhpojaa.Mem Go.Proofs.Ythomnpgpbhpojaa.Sl Go.Proofs.YthomnpgpbhpojaaW.PrintWords Go.Proofs.YthomnpgpbhpojaaW.PrintLast
attribute [local go_sem ↓] Go.wp_at_zero Go.wp_at_succ
set_option linter.unusedSimpArgs false
set_option linter.unusedVariables false

def RdL (w : World) (A : Option Addr) (ls : List (List Int)) : Prop := ∀ (i : Nat) (r : List Int), ls[i]? = some r → ∃ b B c, A = some ⟨b, 0, none⟩ ∧ w.cell? ⟨b, i, none⟩ = some (.slice B r.length c) ∧ RdI w B r
theorem RdL.below {w w' : World} {A : Option Addr} {ls : List (List Int)} (h : RdL w A ls) (hb : Below w.heap.size w w') : RdL w' A ls := fun i r hr => by
  obtain ⟨b, B, c, h1, h2, h3⟩ := h i r hr
  exact ⟨b, B, c, h1, (hb.cell (p := ⟨b, i, none⟩) (World.block_lt_of_cell? w _ h2)).trans h2, h3.below hb⟩
theorem RdI.drewN {w : World} {A : Option Addr} {l : List Int} (h : RdI w A l) (k : Nat) : RdI (w.drewN k) A l := h
theorem RdL.drewN {w : World} {A : Option Addr} {ls : List (List Int)} (h : RdL w A ls) (k : Nat) : RdL (w.drewN k) A ls := h

theorem eq_snoc {α : Type} {a b : List α} {j : Nat} (ha : j < a.length) (hb : j < b.length) (h : a.take j = b.take j) (he : a[j] = b[j]) : a.take (j + 1) = b.take (j + 1) := by
  rw [List.take_add_one, List.take_add_one, h, List.getElem?_eq_getElem ha, List.getElem?_eq_getElem hb, he]

def tb15_6.T6 : Bool × List (List Nat × List Nat) := (true, [([], []), ([], []), ([0, 1], [0, 1]), ([2], [2]), ([], []), ([], []), ([4, 5], [4, 5]), ([6], [6]), ([3, 7], [3, 7])])
def tb15_6.B6 : List Nat := [0, 0, 3, 7, 0, 0, 48, 112, 255]
theorem tb15_6.tab6 : rtab .any (opsOf Try.f15 6) = tb15_6.T6 := by kernel_rfl
theorem tb15_6.bits6 : waitsOk tb15_6.T6.2 tb15_6.B6 = true := by kernel_rfl
set_option maxHeartbeats 4000000 in
set_option maxRecDepth 100000 in
theorem sameInts_calls (w : World) (A B : Option Addr) (ca cb : Nat) (a b : List Int) (ha : RdI w A a) (hb : RdI w B b) (hn : a.length ≤ 1000000) :
    Calls Try.prog 15 #[.slice A a.length ca, .slice B b.length cb] w fun e w' => e = .returned (.bool (decide (a = b))) ∧ ∃ q, w' = w.drewN q := by
  by_cases hl : a.length = b.length
  · rw [← hl]
    obtain ⟨n, hna⟩ : ∃ n, a.length = n := ⟨_, rfl⟩
    rw [hna] at hn ⊢
    have e1 : ((n : Int) == (n : Int)) = true := by simp
    have e2 : ((n : Int) != (n : Int)) = false := by rw [bne, e1]; rfl
    have HA := Lib.hid (And.intro ha hb)
    have HL := Lib.hid (And.intro hna (hl.symm.trans hna))
    clear ha hb hna hl
    go_enter Try.func15, Try.ntmps15
    go_wp2
    clear e1 e2
    go_loopg [13] n (fun kq v13 w' => ∃ j : Nat, v13 = .int .i64 (j : Int) ∧ Hid (j + kq = n ∧ a.take j = b.take j ∧ ∃ q, w' = w.drewN q))
    case atStart => exact ⟨0, rfl, Lib.hid ⟨by omega, by simp, 0, rfl⟩⟩
    case round =>
      obtain ⟨j, rfl, hI⟩ := hrel
      obtain ⟨hjk, htk, q, rfl⟩ := hI.out
      clear hI
      have hla := HL.out.1
      have hlb := HL.out.2
      by_cases hj : j < n
      · have hja : j < a.length := by omega
        have hjb : j < b.length := by omega
        obtain ⟨x, hx⟩ : ∃ x, a[j]'hja = x := ⟨_, rfl⟩
        obtain ⟨y, hy⟩ : ∃ y, b[j]'hjb = y := ⟨_, rfl⟩
        obtain ⟨ba, rfl, hcx⟩ := (RdI.drewN HA.out.1 q) j x (by rw [List.getElem?_eq_getElem (by omega), hx])
        obtain ⟨bb, rfl, hcy⟩ := (RdI.drewN HA.out.2 q) j y (by rw [List.getElem?_eq_getElem (by omega), hy])
        obtain ⟨k1, rfl⟩ : ∃ k1, gk = k1 + 1 := ⟨gk - 1, by omega⟩
        have j0 : (0 : Int) ≤ (j : Int) := by omega
        have j1 : (j : Int) < (n : Int) := by omega
        have j2 : (n : Int) ≤ 1000000 := by omega
        by_cases hxy : x = y
        · have e1 : ((x : Int) == y) = true := by rw [hxy]; simp
          have e2 : ((x : Int) != y) = false := by rw [bne, e1]; rfl
          have hs := eq_snoc (a := a) (b := b) (j := j) (by omega) (by omega) htk (by rw [hx, hy, hxy])
          have HS := Lib.hid (And.intro hjk hs)
          clear htk hs hx hy hjk hxy hla hlb
          go_wp2
          refine start_ (n := 9) (S := fun w' => w'.cell? ⟨ba, j, none⟩ = some (.int .i64 x) ∧ w'.cell? ⟨bb, j, none⟩ = some (.int .i64 y)) (ds := []) (bA 9 0) (by kernel_rfl) rfl rfl ⟨hcx, hcy⟩ (fun hHeld => ?_)
          refine with_tabW tb15_6.tab6 tb15_6.bits6 (fun HT_ HW_ => ?_)
          refine pw_ 0 16 (bA 9 1) HT_.out ?_
          refine pw_ 1 17 (bA 9 3) HT_.out ?_
          refine pw_ 2 18 (bA 9 7) HT_.out ?_
          refine pw_ 4 20 (bA 9 23) HT_.out ?_
          refine pw_ 5 21 (bA 9 55) HT_.out ?_
          refine pw_ 6 22 (bA 9 119) HT_.out ?_
          refine tw_ 3 19 (bA 9 127) HT_.out HW_.out hHeld (hv := by rintro w' ⟨s0, s1⟩; go_simp; with_reducible rfl) (h := ?_)
          refine tw_ 7 23 (bA 9 255) HT_.out HW_.out hHeld (hv := by rintro w' ⟨s0, s1⟩; go_simp; with_reducible rfl) (h := ?_)
          refine pw_ 8 24 (bA 9 511) HT_.out ?_
          refine done_ (done_of HT_.out (by kernel_rfl)) ?_
          clear hHeld HT_ HW_
          go_wp2
          go_roundg k1
          case measure => omega
          case rel => exact ⟨j + 1, by go_num, Lib.hid ⟨by have := HS.out.1; omega, HS.out.2, q + 1, rfl⟩⟩
        · have e1 : ((x : Int) == y) = false := beq_eq_false_iff_ne.2 hxy
          have e2 : ((x : Int) != y) = true := by rw [bne, e1]; rfl
          have hne : decide (a = b) = false := by
            rw [decide_eq_false_iff_not]
            intro he
            subst he
            exact hxy (hx.symm.trans hy)
          have HNE := Lib.hid hne
          clear htk hx hy hjk hla hlb hne
          go_wp2
          refine start_ (n := 9) (S := fun w' => w'.cell? ⟨ba, j, none⟩ = some (.int .i64 x) ∧ w'.cell? ⟨bb, j, none⟩ = some (.int .i64 y)) (ds := []) (bA 9 0) (by kernel_rfl) rfl rfl ⟨hcx, hcy⟩ (fun hHeld => ?_)
          refine with_tabW tb15_6.tab6 tb15_6.bits6 (fun HT_ HW_ => ?_)
          refine pw_ 0 16 (bA 9 1) HT_.out ?_
          refine pw_ 1 17 (bA 9 3) HT_.out ?_
          refine pw_ 2 18 (bA 9 7) HT_.out ?_
          refine pw_ 4 20 (bA 9 23) HT_.out ?_
          refine pw_ 5 21 (bA 9 55) HT_.out ?_
          refine pw_ 6 22 (bA 9 119) HT_.out ?_
          refine tw_ 3 19 (bA 9 127) HT_.out HW_.out hHeld (hv := by rintro w' ⟨s0, s1⟩; go_simp; with_reducible rfl) (h := ?_)
          refine tw_ 7 23 (bA 9 255) HT_.out HW_.out hHeld (hv := by rintro w' ⟨s0, s1⟩; go_simp; with_reducible rfl) (h := ?_)
          refine pw_ 8 24 (bA 9 511) HT_.out ?_
          refine done_ (done_of HT_.out (by kernel_rfl)) ?_
          clear hHeld HT_ HW_
          go_wp2
          go_ret
          exact ⟨by rw [HNE.out]; rfl, q + 1, rfl⟩
      · have heq : decide (a = b) = true := by
          rw [List.take_of_length_le (by omega), List.take_of_length_le (by omega)] at htk
          simpa using htk
        have j0 : (n : Int) ≤ (j : Int) := by omega
        have HE := Lib.hid heq
        clear heq htk hjk hj hla hlb
        go_wp2
        go_ret
        exact ⟨by rw [HE.out]; rfl, q, rfl⟩
  · have e1 : ((a.length : Int) == (b.length : Int)) = false := beq_eq_false_iff_ne.2 (by omega)
    have e2 : ((a.length : Int) != (b.length : Int)) = true := by rw [bne, e1]; rfl
    have hne : decide (a = b) = false := by
      rw [decide_eq_false_iff_not]
      intro he
      exact hl (by rw [he])
    have HNE := Lib.hid hne
    have HL := Lib.hid hl
    clear ha hb hne hl
    go_enter Try.func15, Try.ntmps15
    go_wp2
    go_ret
    exact ⟨by rw [HNE.out]; rfl, 0, rfl⟩

set_option maxHeartbeats 4000000 in
set_option maxRecDepth 100000 in
theorem in_calls (w : World) (A : Option Addr) (ca : Nat) (a : List Int) (x : Int) (ha : RdI w A a) (hn : a.length ≤ 1000000) :
    Calls Try.prog 64 #[.slice A a.length ca, .int .i64 x] w fun e w' => e = .returned (.bool (a.contains x)) ∧ w' = w := by
  obtain ⟨n, hna⟩ : ∃ n, a.length = n := ⟨_, rfl⟩
  rw [hna] at hn ⊢
  have HA := Lib.hid ha
  have HL := Lib.hid hna
  clear ha hna
  go_enter Try.func64, Try.ntmps64
  go_wp2
  go_loopg [5] n (fun kq v5 w' => ∃ j : Nat, v5 = .int .i64 (j : Int) ∧ w' = w ∧ Hid (j + kq = n ∧ (a.take j).contains x = false))
  case atStart => exact ⟨0, rfl, rfl, Lib.hid ⟨by omega, by simp⟩⟩
  case round =>
    obtain ⟨j, rfl, rfl, hI⟩ := hrel
    obtain ⟨hjk, hno⟩ := hI.out
    clear hI
    have hla := HL.out
    by_cases hj : j < n
    · have hja : j < a.length := by omega
      obtain ⟨y, hy⟩ : ∃ y, a[j]'hja = y := ⟨_, rfl⟩
      obtain ⟨ba, rfl, hcx⟩ := HA.out j y (by rw [List.getElem?_eq_getElem hja, hy])
      obtain ⟨k1, rfl⟩ : ∃ k1, gk = k1 + 1 := ⟨gk - 1, by omega⟩
      have j0 : (0 : Int) ≤ (j : Int) := by omega
      have j1 : (j : Int) < (n : Int) := by omega
      have j2 : (n : Int) ≤ 1000000 := by omega
      have j3 : wrap64 ((j : Int) + 1) = (j : Int) + 1 := by unfold wrap64; omega
      by_cases hxy : y = x
      · have e1 : ((y : Int) == x) = true := by rw [hxy]; simp
        have hc : a.contains x = true := by
          rw [List.contains_iff_mem]
          exact hxy ▸ hy ▸ List.getElem_mem hja
        have HC := Lib.hid hc
        clear hc hno hy hjk hxy hla hja
        go_wp2
        go_ret
        exact ⟨by rw [HC.out]; rfl, rfl⟩
      · have e1 : ((y : Int) == x) = false := beq_eq_false_iff_ne.2 hxy
        have hs : (a.take (j + 1)).contains x = false := by
          rw [List.take_add_one, List.getElem?_eq_getElem hja, hy]
          simp only [Option.toList_some, List.contains_eq_any_beq, List.any_append, List.any_cons, List.any_nil] at *
          rw [hno]
          simp
          exact fun h => hxy h.symm
        have HS := Lib.hid (And.intro hjk hs)
        clear hs hno hy hjk hla hja
        go_wp2
        go_roundg k1
        case measure => omega
        case rel => exact ⟨j + 1, by go_num, rfl, Lib.hid ⟨by have := HS.out.1; omega, HS.out.2⟩⟩
    · have hc : a.contains x = false := by
        rw [List.take_of_length_le (by omega)] at hno
        exact hno
      have j0 : (n : Int) ≤ (j : Int) := by omega
      have HC := Lib.hid hc
      clear hc hno hjk hj hla
      go_wp2
      go_ret
      exact ⟨by rw [HC.out]; rfl, rfl⟩

def compI (ls : List (List Int)) (x : Int) : Int := match ls.findIdx? (·.contains x) with | some i => (i : Int) | none => -1

end Go.Proofs.Ythomnpgpbhpojaa.Lw

/- The references' Comp. -/
namespace Go.Proofs.Ythomnpgpbhpojaa.Lw
open Go Go.RowKit Go.Proofs.Ythomnpgpbhpojaa.Mem Go.Proofs.Ythomnpgpbhpojaa.Sl Go.Proofs.YthomnpgpbhpojaaW.PrintWords Go.Proofs.YthomnpgpbhpojaaW.PrintLast
attribute [local go_sem ↓] Go.wp_at_zero Go.wp_at_succ
set_option linter.unusedSimpArgs false
set_option linter.unusedVariables false

theorem compI_at {ls : List (List Int)} {x : Int} {j : Nat} (hj : j < ls.length) (hno : ∀ i (h : i < ls.length), i < j → (ls[i]).contains x = false) (h : (ls[j]).contains x = true) : compI ls x = (j : Int) := by
  have : ls.findIdx? (·.contains x) = some j := by
    rw [List.findIdx?_eq_some_iff_getElem]
    exact ⟨hj, h, fun i hi => by simpa using hno i (by omega) hi⟩
  rw [compI, this]
theorem compI_none {ls : List (List Int)} {x : Int} (hno : ∀ i (h : i < ls.length), (ls[i]).contains x = false) : compI ls x = -1 := by
  have : ls.findIdx? (·.contains x) = none := by
    rw [List.findIdx?_eq_none_iff]
    intro r hr
    obtain ⟨i, hi, rfl⟩ := List.mem_iff_getElem.1 hr
    exact hno i hi
  rw [compI, this]

set_option maxHeartbeats 4000000 in
set_option maxRecDepth 100000 in
theorem comp_calls (w : World) (A : Option Addr) (ca : Nat) (ls : List (List Int)) (x : Int) (ha : RdL w A ls) (hn : ls.length ≤ 1000000) (hr : ∀ r ∈ ls, r.length ≤ 1000000) :
    Calls Try.prog 53 #[.slice A ls.length ca, .int .i64 x] w fun e w' => e = .returned (.int .i64 (compI ls x)) ∧ w' = w := by
  obtain ⟨n, hna⟩ : ∃ n, ls.length = n := ⟨_, rfl⟩
  rw [hna] at hn ⊢
  have HA := Lib.hid ha
  have HL := Lib.hid hna
  have HRL := Lib.hid hr
  clear ha hna hr
  go_enter Try.func53, Try.ntmps53
  go_wp2_with fail
  go_loopg [5] n (fun kq v5 w' => ∃ j : Nat, v5 = .int .i64 (j : Int) ∧ w' = w ∧ Hid (j + kq = n ∧ ∀ i (h : i < ls.length), i < j → (ls[i]).contains x = false))
  case atStart => exact ⟨0, rfl, rfl, Lib.hid ⟨by omega, fun i h hi => by omega⟩⟩
  case round =>
    obtain ⟨j, rfl, rfl, hI⟩ := hrel
    obtain ⟨hjk, hno⟩ := hI.out
    clear hI
    have hla := HL.out
    by_cases hj : j < n
    · have hja : j < ls.length := by omega
      obtain ⟨r, hr⟩ : ∃ r, ls[j]'hja = r := ⟨_, rfl⟩
      obtain ⟨ba, B, c, rfl, hcx, hrd⟩ := HA.out j r (by rw [List.getElem?_eq_getElem hja, hr])
      have hrl : r.length ≤ 1000000 := HRL.out r (hr ▸ List.getElem_mem hja)
      obtain ⟨k1, rfl⟩ : ∃ k1, gk = k1 + 1 := ⟨gk - 1, by omega⟩
      have j0 : (0 : Int) ≤ (j : Int) := by omega
      have j1 : (j : Int) < (n : Int) := by omega
      have j2 : (n : Int) ≤ 1000000 := by omega
      have j3 : wrap64 ((j : Int) + 1) = (j : Int) + 1 := by unfold wrap64; omega
      have hcall := in_calls wr B c r x hrd hrl
      obtain ⟨ans, hans⟩ : ∃ ans, r.contains x = ans := ⟨_, rfl⟩
      rw [hans] at hcall
      have HC := Lib.hid hcall
      cases ans with
      | true =>
        have hc := compI_at hja hno (by rw [hr, hans])
        have HCI := Lib.hid hc
        clear hc hno hr hjk hla hja hcall hans hrd hrl
        go_wp2_with fail
        refine HC.out.mono ?_
        rintro e w1 ⟨rfl, rfl⟩
        go_wp2_with fail
        go_ret
        exact ⟨by rw [HCI.out]; rfl, rfl⟩
      | false =>
        have hno2 : ∀ i (h : i < ls.length), i < j + 1 → (ls[i]).contains x = false := by
          intro i h hi
          rcases Nat.lt_or_ge i j with h1 | h1
          · exact hno i h h1
          · have : i = j := by omega
            subst this
            rw [hr, hans]
        have HS := Lib.hid (And.intro hjk hno2)
        clear hno hno2 hr hjk hla hja hcall hans hrd hrl
        go_wp2_with fail
        refine HC.out.mono ?_
        rintro e w1 ⟨rfl, rfl⟩
        go_wp2_with fail
        go_roundg k1
        case measure => omega
        case rel => exact ⟨j + 1, by go_num, rfl, Lib.hid ⟨by have := HS.out.1; omega, HS.out.2⟩⟩
    · have hc : compI ls x = -1 := compI_none (fun i h => hno i h (by omega))
      have j0 : (n : Int) ≤ (j : Int) := by omega
      have HC := Lib.hid hc
      clear hc hno hjk hj hla
      go_wp2_with fail
      go_ret
      exact ⟨by rw [HC.out]; rfl, rfl⟩

end Go.Proofs.Ythomnpgpbhpojaa.Lw

/- Appending what can be read to a row of one's own; Cut. -/
namespace Go.Proofs.Ythomnpgpbhpojaa.Lw
open Go Go.RowKit Go.Proofs.Ythomnpgpbhpojaa.Mem Go.Proofs.Ythomnpgpbhpojaa.Sl Go.Proofs.YthomnpgpbhpojaaW.PrintWords Go.Proofs.YthomnpgpbhpojaaW.PrintLast
attribute [local go_sem ↓] Go.wp_at_zero Go.wp_at_succ
set_option linter.unusedSimpArgs false
set_option linter.unusedVariables false

def RdV (w : World) (v : Value) (n size : Nat) (news : List Value) : Prop :=
  news.length = n * size ∧ (∀ u ∈ news, u.oneCell' = true) ∧ ((v = .slice none 0 0 ∧ n = 0) ∨ ∃ ad c, v = .slice (some ad) n c ∧ ∀ j u, news[j]? = some u → w.cell? (ad.add j) = some u)

theorem RdV.below {w w' : World} {v : Value} {n size : Nat} {news : List Value} (h : RdV w v n size news) (hb : Below w.heap.size w w') : RdV w' v n size news := by
  refine ⟨h.1, h.2.1, h.2.2.imp id ?_⟩
  rintro ⟨ad, c, e, hc⟩
  exact ⟨ad, c, e, fun j u hu => (hb.cell (World.block_lt_of_cell? w _ (hc j u hu))).trans (hc j u hu)⟩

theorem run_append_any {P : Program} (w : World) (base : Nat) (t ty e : TypeId) (i : TypeInfo) (z : Value) (size bytes : Nat) (ht : P.underlying t = some (.slice e)) (hi : P.info? e = some i) (hz : i.zero = some z)
    (hsize : i.size = size) (hby : i.bytes = bytes) (hzs : z.cells.size = size) (hsz : 0 < size) (v : Value) (n : Nat) (xs : List Value) (hown : w.ownsRow base e size v n xs)
    (x : Value) (m : Nat) (news : List Value) (hx : RdV w x m size news) (h63 : n + m ≤ maxLen) (hbytes : (n + m) * bytes ≤ 140737488355328) (hbase : base ≤ w.heap.size) :
    ∃ v' w', (Builtin.append_ #[t, t] ty #[v, x]).run P w = .ok v' w' ∧ w'.ownsRow base e size v' (n + m) (xs ++ news) ∧ w.grownBy w' v.ownBlock ∧ (v'.ownBlock = v.ownBlock ∨ v'.ownBlock = some w.heap.size) := by
  obtain ⟨hl, h1, ⟨rfl, rfl⟩ | ⟨ad, c, rfl, hc⟩⟩ := hx
  · have hnil : news = [] := List.length_eq_zero_iff.1 (by omega)
    subst hnil
    refine ⟨v, w, run_append_owned_none (P := P) w base t ty e i size ht hi v n xs hown, ?_, ⟨rfl, rfl, rfl, Nat.le_refl _, fun _ _ _ => rfl⟩, Or.inl rfl⟩
    simpa using hown
  · obtain ⟨v', w', g1, g2, g3, _, g5⟩ := run_append_own_at (P := P) (w := w) base t ty e i z size bytes ht hi hz hsize hby hzs hsz v n xs hown ad m c news hl hc h1 h63 hbytes hbase
    exact ⟨v', w', g1, g2, g3, g5⟩

theorem step_append_any {P : Program} {w : World} {ops : Array Oper} {o : Oper} {a : Act} {K : Act → World → Prop} {Q : Exit → Act → World → Prop} {E : Prop} (hgd : o.guard = none) (s x : Operand) (t : TypeId)
    (ho : o.op = .call { callee := .builtin .append, args := #[s, x], argTypes := #[t, t] })
    (base : Nat) (e : TypeId) (i : TypeInfo) (z : Value) (size bytes : Nat) (ht : P.underlying t = some (.slice e)) (hi : P.info? e = some i) (hz : i.zero = some z)
    (hsize : i.size = size) (hby : i.bytes = bytes) (hzs : z.cells.size = size) (hsz : 0 < size) (v : Value) (n : Nat) (xs : List Value) (hs : a.eval s = v) (hown : w.ownsRow base e size v n xs)
    (xv : Value) (hxv : a.eval x = xv) (m : Nat) (news : List Value) (hx : RdV w xv m size news) (h63 : n + m ≤ maxLen) (hbytes : (n + m) * bytes ≤ 140737488355328) (hbase : base ≤ w.heap.size)
    (h : ∀ v' w', w'.ownsRow base e size v' (n + m) (xs ++ news) → w.grownBy w' v.ownBlock → (v'.ownBlock = v.ownBlock ∨ v'.ownBlock = some w.heap.size) → K (a.put o.dst v') w') :
    if Region.wanted o (yielded ops a.tmps) = true then Oper.wp P o a w K Q else E := by
  have hw : Region.wanted o (yielded ops a.tmps) = true := by simp [Region.wanted, hgd]
  rw [if_pos hw]
  obtain ⟨v', w', hr, h2, h3, h4⟩ := run_append_any (P := P) w base t o.type e i z size bytes ht hi hz hsize hby hzs hsz v n xs hown xv m news hx h63 hbytes hbase
  unfold Oper.wp execOp
  simp only [ho, resolve, invoke, builtin, Sem.run_bind, Sem.run_pure, Result.andThen_ok, List.map_toArray, List.map_cons, List.map_nil, hs, hxv, hr]
  exact h v' w' h2 h3 h4

theorem wpList_append_any {P : Program} {w : World} {ops : Array Oper} {rest : List Oper} {o : Oper} {a : Act} {Q : Exit → Act → World → Prop} (hgd : o.guard = none) (s x : Operand) (t : TypeId)
    (ho : o.op = .call { callee := .builtin .append, args := #[s, x], argTypes := #[t, t] })
    (base : Nat) (e : TypeId) (i : TypeInfo) (z : Value) (size bytes : Nat) (ht : P.underlying t = some (.slice e)) (hi : P.info? e = some i) (hz : i.zero = some z)
    (hsize : i.size = size) (hby : i.bytes = bytes) (hzs : z.cells.size = size) (hsz : 0 < size) (v : Value) (n : Nat) (xs : List Value) (hs : a.eval s = v) (hown : w.ownsRow base e size v n xs)
    (xv : Value) (hxv : a.eval x = xv) (m : Nat) (news : List Value) (hx : RdV w xv m size news) (h63 : n + m ≤ maxLen) (hbytes : (n + m) * bytes ≤ 140737488355328) (hbase : base ≤ w.heap.size)
    (h : ∀ v' w', w'.ownsRow base e size v' (n + m) (xs ++ news) → w.grownBy w' v.ownBlock → (v'.ownBlock = v.ownBlock ∨ v'.ownBlock = some w.heap.size) → wpList P ops Q rest (a.put o.dst v') w') :
    wpList P ops Q (o :: rest) a w := by
  refine wpList_plain hgd fun _ hK => ?_
  obtain ⟨v', w', hr, h2, h3, h4⟩ := run_append_any (P := P) w base t o.type e i z size bytes ht hi hz hsize hby hzs hsz v n xs hown xv m news hx h63 hbytes hbase
  unfold Oper.wp execOp
  simp only [ho, resolve, invoke, builtin, Sem.run_bind, Sem.run_pure, Result.andThen_ok, List.map_toArray, List.map_cons, List.map_nil, hs, hxv, hr]
  exact hK _ _ (h v' w' h2 h3 h4)

end Go.Proofs.Ythomnpgpbhpojaa.Lw

/- Cut. -/
namespace Go.Proofs.Ythomnpgpbhpojaa.Lw
open Go Go.RowKit Go.Proofs.Ythomnpgpbhpojaa.Mem Go.Proofs.Ythomnpgpbhpojaa.Sl Go.Proofs.YthomnpgpbhpojaaW.PrintWords Go.Proofs.YthomnpgpbhpojaaW.PrintLast
attribute [local go_sem ↓] Go.wp_at_zero Go.wp_at_succ
set_option linter.unusedSimpArgs false
set_option linter.unusedVariables false

def ArgV (w : World) (v : Value) (n size : Nat) (news : List Value) : Prop :=
  news.length = n * size ∧ (∀ u ∈ news, u.oneCell' = true) ∧ ((v = .slice none 0 0 ∧ n = 0) ∨ ∃ ad c, v = .slice (some ad) n c ∧ n ≤ c ∧ ∀ j u, news[j]? = some u → w.cell? (ad.add j) = some u)
theorem ArgV.rd {w : World} {v : Value} {n size : Nat} {news : List Value} (h : ArgV w v n size news) : RdV w v n size news :=
  ⟨h.1, h.2.1, h.2.2.imp id (fun ⟨ad, c, e, _, hc⟩ => ⟨ad, c, e, hc⟩)⟩

theorem ArgV.take {w : World} {A : Option Addr} {c n size m : Nat} {news : List Value} (h : ArgV w (.slice A n c) n size news) (hm : m ≤ n) : RdV w (.slice A m c) m size (news.take (m * size)) ∧ n ≤ c := by
  obtain ⟨hl, h1, h2⟩ := h
  have hlt : (news.take (m * size)).length = m * size := by
    rw [List.length_take, hl]
    exact Nat.min_eq_left (Nat.mul_le_mul_right _ hm)
  have h1' : ∀ u ∈ news.take (m * size), u.oneCell' = true := fun u hu => h1 u (List.mem_of_mem_take hu)
  rcases h2 with ⟨he, rfl⟩ | ⟨ad, c', he, hnc, hc⟩
  · cases he
    obtain rfl : m = 0 := by omega
    exact ⟨⟨hlt, h1', .inl ⟨rfl, rfl⟩⟩, Nat.le_refl _⟩
  · cases he
    refine ⟨⟨hlt, h1', .inr ⟨ad, c, rfl, fun j u hu => ?_⟩⟩, hnc⟩
    rw [List.getElem?_take] at hu
    split at hu
    · exact hc j u hu
    · cases hu

theorem RdV.lit (w : World) (a : Array Value) (T : TypeId) (n size c : Nat) (hl : a.toList.length = n * size) (h1 : ∀ u ∈ a.toList, u.oneCell' = true) : RdV (w.alloc (.cells a T)) (.slice (some ⟨w.heap.size, 0, none⟩) n c) n size a.toList := by
  refine ⟨hl, h1, .inr ⟨_, _, rfl, fun j u hu => ?_⟩⟩
  rw [add_plain]
  simpa using (At.new w a T).cell j hu

theorem own_made {w : World} {base k size : Nat} {T : TypeId} (hk : w.heap.size = k) (hb : base ≤ w.heap.size) : (w.alloc (.cells #[] T)).ownsRow base T size (.slice (some ⟨k, 0, none⟩) 0 0) 0 [] := by
  subst hk
  exact World.ownsRow_lit w #[] 0 hb (by decide) (by simp)

theorem info_int : (Try.prog.info? 3).map (fun i => (i.zero, i.size, i.bytes)) = some (some (.int .i64 0), 1, 8) := by kernel_rfl
theorem info_arc : (Try.prog.info? 69).map (fun i => (i.zero, i.size, i.bytes)) = some (some (.agg #[.int .i64 0, .int .i64 0]), 2, 16) := by kernel_rfl

structure One (w0 : World) (e : TypeId) (size : Nat) (v : Value) (n : Nat) (xs : List Value) (W : World) : Prop where
  r : W.ownsRow w0.heap.size e size v n xs
  b : Below w0.heap.size w0 W
structure Two (w0 : World) (e1 : TypeId) (s1 : Nat) (v1 : Value) (n1 : Nat) (xs1 : List Value) (e2 : TypeId) (s2 : Nat) (v2 : Value) (n2 : Nat) (xs2 : List Value) (W : World) : Prop where
  r1 : W.ownsRow w0.heap.size e1 s1 v1 n1 xs1
  r2 : W.ownsRow w0.heap.size e2 s2 v2 n2 xs2
  ne : ∀ k, v1.ownBlock = some k → v2.ownBlock ≠ some k
  b : Below w0.heap.size w0 W
section
variable {w0 w w' : World} {e e1 e2 : TypeId} {s s1 s2 : Nat} {v v1 v2 : Value} {n n1 n2 : Nat} {xs xs1 xs2 : List Value}
theorem own_mono {B B' : Nat} (h : w.ownsRow B e s v n xs) (hb : B' ≤ B) : w.ownsRow B' e s v n xs :=
  ⟨h.1, h.2.imp id fun ⟨g, cap, cur, a1, a2, a3⟩ => ⟨g, cap, cur, a1, Nat.le_trans hb a2, a3⟩⟩
theorem own_below {B : Nat} (h : w.ownsRow B e s v n xs) (hb : Below w.heap.size w w') : w'.ownsRow B e s v n xs :=
  h.kept (row := none) ⟨hb.os, hb.tape, hb.output, hb.size, fun k hk _ => hb.block k hk⟩ (by cases v.ownBlock <;> simp)
theorem One.make (h0 : Below w0.heap.size w0 w) (h : w'.ownsRow w.heap.size e s v 0 []) (hb : Below w.heap.size w w') : One w0 e s v 0 [] w' :=
  ⟨own_mono h h0.size, h0.trans (hb.mono h0.size)⟩
theorem One.below (h : One w0 e s v n xs w) (hb : Below w.heap.size w w') : One w0 e s v n xs w' := ⟨own_below h.r hb, h.b.trans (hb.mono h.b.size)⟩
theorem Two.below (h : Two w0 e1 s1 v1 n1 xs1 e2 s2 v2 n2 xs2 w) (hb : Below w.heap.size w w') : Two w0 e1 s1 v1 n1 xs1 e2 s2 v2 n2 xs2 w' := ⟨own_below h.r1 hb, own_below h.r2 hb, h.ne, h.b.trans (hb.mono h.b.size)⟩
theorem Two.swap (h : Two w0 e1 s1 v1 n1 xs1 e2 s2 v2 n2 xs2 w) : Two w0 e2 s2 v2 n2 xs2 e1 s1 v1 n1 xs1 w := ⟨h.r2, h.r1, fun k h2 h1 => h.ne k h1 h2, h.b⟩
theorem One.and (h : One w0 e1 s1 v1 n1 xs1 w) (h2 : w'.ownsRow w.heap.size e2 s2 v2 0 []) (hb : Below w.heap.size w w') (hv : v2.ownBlock = some w.heap.size) : Two w0 e1 s1 v1 n1 xs1 e2 s2 v2 0 [] w' :=
  ⟨own_below h.r hb, own_mono h2 h.b.size, fun k hk hk2 => by
    have := (h.r.lt k hk).2
    rw [hv] at hk2
    cases hk2
    omega, h.b.trans (hb.mono h.b.size)⟩
theorem One.grow (h : One w0 e s v n xs w) {v' : Value} {n' : Nat} {xs' : List Value} (ho : w'.ownsRow w0.heap.size e s v' n' xs') (hg : w.grownBy w' v.ownBlock) : One w0 e s v' n' xs' w' :=
  ⟨ho, h.b.grown hg h.b.size fun k hk => (h.r.lt k hk).1⟩
end


end Go.Proofs.Ythomnpgpbhpojaa.Lw
