/- What scc's three functions answer, told by the sorted vertices and the relation of their edges alone. -/
import Derived.Test.YtgihncjllelonaaGreatHt11
import Derived.Test.YtgihncjllelonaaGreatHt5
import Derived.Test.YtgihncjllelonaaGreatRows
import Derived.ProofKit
import Derived.OpenShut
import Derived.Carry
import Derived.Deep.SlicePairs
import Derived.Test.YtgihncjllelonaaGreatHt1
import Derived.MapKept
namespace Go.Proofs.YtgihncjllelonaaGreat.Tj
set_option linter.unusedSimpArgs false
set_option linter.unusedVariables false

theorem compact_len {sl : List Int} (hs : sl.Pairwise (· ≤ ·)) : (Lib.compact sl).length = sl.length ↔ sl.Nodup := by
  unfold Lib.compact Lib.compactUpTo
  rw [List.length_map]
  have h1 : ((List.range sl.length).filter (Lib.keeps sl.toArray)).length = sl.length ↔ ∀ j ∈ List.range sl.length, Lib.keeps sl.toArray j = true := by
    have := @List.length_filter_eq_length_iff Nat (Lib.keeps sl.toArray) (List.range sl.length)
    rw [List.length_range] at this
    exact this
  rw [h1]
  have hk : ∀ j (hj : j < sl.length), 0 < j → (Lib.keeps sl.toArray j = true ↔ sl[j] ≠ sl[j - 1]'(by omega)) := by
    intro j hj h0
    have e1 : sl.toArray[j]! = sl[j] := by simp [hj]
    have e2 : sl.toArray[j - 1]! = sl[j - 1]'(by omega) := by simp [show j - 1 < sl.length by omega]
    rw [Lib.keeps, e1, e2]
    simp [show j ≠ 0 by omega]
  constructor
  · intro h
    rw [List.nodup_iff_pairwise_ne, List.pairwise_iff_getElem]
    intro i j hi hj hij
    have h2 := (hk j hj (by omega)).1 (h j (List.mem_range.2 hj))
    have h3 : sl[j - 1]'(by omega) ≤ sl[j] := List.pairwise_iff_getElem.1 hs (j - 1) j (by omega) hj (by omega)
    have h4 : sl[i] ≤ sl[j - 1]'(by omega) := by
      rcases Nat.lt_or_ge i (j - 1) with h5 | h5
      · exact List.pairwise_iff_getElem.1 hs i (j - 1) hi (by omega) h5
      · have : i = j - 1 := by omega
        subst this
        exact Int.le_refl _
    omega
  · intro h j hj
    have hj := List.mem_range.1 hj
    rcases Nat.eq_zero_or_pos j with rfl | h0
    · simp [Lib.keeps]
    · rw [hk j hj h0]
      rw [List.nodup_iff_pairwise_ne, List.pairwise_iff_getElem] at h
      exact fun e => h (j - 1) j (by omega) hj (by omega) e.symm

def place (sl : List Int) (x : Int) : Nat := sl.countP (· < x)

def PE (sl : List Int) (arcs : List (Int × Int)) (u v : Nat) : Prop := ∃ p ∈ arcs, place sl p.1 = u ∧ place sl p.2 = v

def good (sl : List Int) (arcs : List (Int × Int)) : Bool := arcs.all fun p => sl.contains p.1 && sl.contains p.2

def CompOf (n : Nat) (E : Nat → Nat → Prop) (comp : List Nat) (m : Nat) : Prop :=
  comp.length = n ∧ fo comp 0 = some m ∧ ∀ x y, x < n → y < n → (comp.getD x 0 = comp.getD y 0 ↔ Rch E x y ∧ Rch E y x)

theorem CompOf.congr {n m : Nat} {E E' : Nat → Nat → Prop} {comp : List Nat} (h : CompOf n E comp m) (hE : ∀ u v, E u v ↔ E' u v) : CompOf n E' comp m := by
  have : E = E' := by funext u v; exact propext (hE u v)
  exact this ▸ h

end Go.Proofs.YtgihncjllelonaaGreat.Tj

/- What scc's three functions answer: the models' answers. -/
namespace Go.Proofs.YtgihncjllelonaaGreat.Tj

theorem exists_min {R : Nat → Nat → Prop} (ht : ∀ a b c, R a b → R b c → R a c) (ha : ∀ a b, R a b → R b a → a = b) : ∀ U : List Nat, U ≠ [] → ∃ c ∈ U, ∀ d ∈ U, R d c → d = c
  | [], h => absurd rfl h
  | [a], _ => ⟨a, List.mem_cons_self, fun d hd _ => by simpa using hd⟩
  | a :: b :: U, _ => by
    obtain ⟨c, hc, hm⟩ := exists_min ht ha (b :: U) (by simp)
    by_cases hac : R a c
    · refine ⟨a, List.mem_cons_self, fun d hd hda => ?_⟩
      rcases List.mem_cons.1 hd with rfl | hd
      · rfl
      · have h1 := hm d hd (ht _ _ _ hda hac)
        subst h1
        exact ha _ _ hda hac
    · refine ⟨c, List.mem_cons.2 (.inr hc), fun d hd hdc => ?_⟩
      rcases List.mem_cons.1 hd with rfl | hd
      · exact absurd hdc hac
      · exact hm d hd hdc

def Arc (n : Nat) (E : Nat → Nat → Prop) (comp : List Nat) (d x : Nat) : Prop := x ≠ d ∧ ∃ v w, v < n ∧ E v w ∧ comp.getD v 0 = d ∧ comp.getD w 0 = x

theorem CompOf.min {n m : Nat} {E : Nat → Nat → Prop} {comp : List Nat} (h : CompOf n E comp m) (hE : ∀ u v, E u v → v < n) (T : List Nat) (hT : ∃ x, x < m ∧ x ∉ T) : ∃ c, c < m ∧ c ∉ T ∧ ∀ d, d < m → d ∉ T → ¬ Arc n E comp d c := by
  obtain ⟨hl, hf, hk⟩ := h
  obtain ⟨x, hx, hxT⟩ := hT
  let R : Nat → Nat → Prop := fun d c => ∃ v w, v < n ∧ w < n ∧ comp.getD v 0 = d ∧ comp.getD w 0 = c ∧ Rch E v w
  have ht : ∀ a b c, R a b → R b c → R a c := by
    rintro a b c ⟨v, w, h1, h2, h3, h4, h5⟩ ⟨v', w', g1, g2, g3, g4, g5⟩
    have := ((hk w v' h2 g1).1 (h4.trans g3.symm)).1
    exact ⟨v, w', h1, g2, h3, g4, (h5.trans this).trans g5⟩
  have ha : ∀ a b, R a b → R b a → a = b := by
    rintro a b ⟨v, w, h1, h2, h3, h4, h5⟩ ⟨v', w', g1, g2, g3, g4, g5⟩
    have e1 := ((hk w v' h2 g1).1 (h4.trans g3.symm)).1
    have e2 := ((hk w' v g2 h1).1 (g4.trans h3.symm)).1
    rw [← h3, ← h4]
    exact (hk v w h1 h2).2 ⟨h5, (e1.trans g5).trans e2⟩
  obtain ⟨c, hc, hmin⟩ := exists_min ht ha ((List.range m).filter fun d => decide (d ∉ T)) (by
    intro he
    have : x ∈ (List.range m).filter fun d => decide (d ∉ T) := by simp [hx, hxT]
    rw [he] at this
    simp at this)
  simp only [List.mem_filter, List.mem_range, decide_eq_true_eq] at hc hmin
  refine ⟨c, hc.1, hc.2, fun d hd hdT hA => ?_⟩
  obtain ⟨hne, v, w, h1, h2, h3, h4⟩ := hA
  exact hne (hmin d ⟨hd, hdT⟩ ⟨v, w, h1, hE v w h2, h3, h4, .one h2⟩).symm

section
end

end Go.Proofs.YtgihncjllelonaaGreat.Tj

/- The components and their order are determined by the relation of the edges. -/
namespace Go.Proofs.YtgihncjllelonaaGreat.Tj

end Go.Proofs.YtgihncjllelonaaGreat.Tj

/- What scc's functions answer is the same for lists of the same vertices and arcs; turned arcs leave the components. -/
namespace Go.Proofs.YtgihncjllelonaaGreat.Tj

theorem Rch.head {E : Nat → Nat → Prop} {a b c : Nat} (h : E a b) (h' : Rch E b c) : Rch E a c := (Rch.step (Rch.refl a) h).trans h'
theorem Rch.turn {E E' : Nat → Nat → Prop} (h : ∀ u v, E u v → E' v u) {x y : Nat} (hr : Rch E x y) : Rch E' y x := by
  induction hr with
  | refl => exact .refl _
  | step _ he ih => exact Rch.head (h _ _ he) ih

theorem good_iff {sl : List Int} {arcs : List (Int × Int)} : good sl arcs = true ↔ ∀ p ∈ arcs, sl.contains p.1 = true ∧ sl.contains p.2 = true := by
  simp [good]
section
end

end Go.Proofs.YtgihncjllelonaaGreat.Tj

/- Rows read as lists; the document's example: what scc.Of answers there. -/
namespace Go.Proofs.YtgihncjllelonaaGreat.Lw
open Go Go.RowKit Go.Proofs.YtgihncjllelonaaGreat.Mem Go.Proofs.YtgihncjllelonaaGreat.Sl Go.Proofs.YtgihncjllelonaaGreat.Scc Go.Proofs.YtgihncjllelonaaGreat.Tj Go.Proofs.YtgihncjllelonaaGreatW.PrintWords Go.Proofs.YtgihncjllelonaaGreatW.PrintLast
attribute [local go_sem ↓] Go.wp_at_zero Go.wp_at_succ
set_option linter.unusedSimpArgs false
set_option linter.unusedVariables false

def arcs2 (l : List (Int × Int)) : List Value := l.flatMap fun p => [.int .i64 p.1, .int .i64 p.2]
theorem arcs2_cons (p : Int × Int) (l : List (Int × Int)) : arcs2 (p :: l) = .int .i64 p.1 :: .int .i64 p.2 :: arcs2 l := rfl
theorem arcs2_length : ∀ l : List (Int × Int), (arcs2 l).length = l.length * 2
  | [] => rfl
  | p :: l => by rw [arcs2_cons, List.length_cons, List.length_cons, arcs2_length l, List.length_cons]; omega
theorem arcs2_at : ∀ (l : List (Int × Int)) (j : Nat) (u v : Int), l[j]? = some (u, v) → (arcs2 l)[j * 2]? = some (.int .i64 u) ∧ (arcs2 l)[j * 2 + 1]? = some (.int .i64 v)
  | [], j, u, v, h => by simp at h
  | p :: l, 0, u, v, h => by
    have : p = (u, v) := by simpa using h
    subst this
    exact ⟨rfl, rfl⟩
  | p :: l, j + 1, u, v, h => by
    have := arcs2_at l j u v (by simpa using h)
    rw [arcs2_cons, show (j + 1) * 2 = j * 2 + 2 by omega]
    exact this
theorem ints_take (l : List Int) (q : Nat) : (ints l).take q = ints (l.take q) := by simp [ints]
theorem ints_one (l : List Int) : ∀ u ∈ ints l, u.oneCell' = true := by
  intro u hu
  simp only [ints, List.mem_map] at hu
  obtain ⟨x, _, rfl⟩ := hu
  rfl

theorem cell_flat {w : World} {base size n c : Nat} {e : TypeId} {A : Option Addr} {xs : List Value} (h : w.ownsRow base e size (.slice A n c) n xs) (hn : 0 < n) : ∃ g, A = some ⟨g, 0, none⟩ ∧ base ≤ g ∧ ∀ j u, xs[j]? = some u → w.cell? ⟨g, j, none⟩ = some u := by
  obtain ⟨g, cap, hv, hb, _⟩ := h.form hn
  cases hv
  refine ⟨g, rfl, hb, fun j u hu => ?_⟩
  have := h.cells (g := g) rfl j u hu
  rw [add_plain] at this
  simpa using this

theorem RdA.of_own {w : World} {base n c : Nat} {e : TypeId} {A : Option Addr} {l : List (Int × Int)} (h : w.ownsRow base e 2 (.slice A n c) n (arcs2 l)) : RdA w A l ∧ n = l.length := by
  have hn : n = l.length := by have := h.1; rw [arcs2_length] at this; omega
  refine ⟨fun j u v hx => ?_, hn⟩
  have hj : j < l.length := (List.getElem?_eq_some_iff.1 hx).1
  obtain ⟨g, rfl, _, hc⟩ := cell_flat h (by omega)
  exact ⟨g, rfl, hc _ _ (arcs2_at l j u v hx).1, hc _ _ (arcs2_at l j u v hx).2⟩

theorem RdI.lit (w : World) (l : List Int) (T : TypeId) : RdI (w.alloc (.cells (ints l).toArray T)) (some ⟨w.heap.size, 0, none⟩) l := fun j x hx =>
  ⟨_, rfl, (At.new w (ints l).toArray T).cell j (Mem.ints_at l hx)⟩
theorem RdA.lit (w : World) (l : List (Int × Int)) (T : TypeId) : RdA (w.alloc (.cells (arcs2 l).toArray T)) (some ⟨w.heap.size, 0, none⟩) l := fun j u v hx =>
  ⟨_, rfl, (At.new w (arcs2 l).toArray T).cell _ (arcs2_at l j u v hx).1, (At.new w (arcs2 l).toArray T).cell _ (arcs2_at l j u v hx).2⟩

theorem RdL.of_rows {w : World} {base bo n : Nat} {vals : List Value} {ls : List (List Int)} (h : RwsI w base bo n vals ls) : RdL w (some ⟨bo, 0, none⟩) ls := fun i r hr => by
  have hi : i < ls.length := (List.getElem?_eq_some_iff.1 hr).1
  have hiv : i < vals.length := by rw [h.lv, ← h.lo]; exact hi
  have hv : vals[i]? = some vals[i] := List.getElem?_eq_getElem hiv
  have ho := h.own i _ r hv hr
  obtain ⟨A, c, he⟩ : ∃ A c, vals[i] = .slice A r.length c := by
    rcases ho.2 with ⟨h1, h2⟩ | ⟨g, cap, _, h1, _⟩
    · rw [h2]; exact ⟨none, 0, h1⟩
    · exact ⟨_, _, h1⟩
  refine ⟨bo, A, c, rfl, he ▸ h.hat.cell i hv, ?_⟩
  rw [he] at ho
  exact (RdI.of_own ho).1

theorem own_slice {w : World} {base size n : Nat} {e : TypeId} {v : Value} {xs : List Value} (h : w.ownsRow base e size v n xs) : ∃ A c, v = .slice A n c := by
  rcases h.2 with ⟨h1, rfl⟩ | ⟨g, cap, _, h1, _⟩
  · exact ⟨none, 0, h1⟩
  · exact ⟨_, _, h1⟩

theorem sorted_same {l l' : List Int} (h : l.Perm l') : sorted l = sorted l' := by
  have ht : ∀ a b c : Int, decide (a ≤ b) = true → decide (b ≤ c) = true → decide (a ≤ c) = true := by
    intro a b c h1 h2
    simp only [decide_eq_true_eq] at *
    omega
  have hto : ∀ a b : Int, (decide (a ≤ b) || decide (b ≤ a)) = true := by
    intro a b
    simp only [Bool.or_eq_true, decide_eq_true_eq]
    omega
  have p1 := List.pairwise_mergeSort ht hto l
  have p2 := List.pairwise_mergeSort ht hto l'
  have hp : (sorted l).Perm (sorted l') := ((List.mergeSort_perm l _).trans h).trans (List.mergeSort_perm l' _).symm
  refine List.Perm.eq_of_pairwise (le := fun a b => decide (a ≤ b) = true) ?_ p1 p2 hp
  intro a b _ _ h1 h2
  simp only [decide_eq_true_eq] at h1 h2
  omega
theorem sorted_rising (l : List Int) : (sorted l).Pairwise (· ≤ ·) := by
  have p1 := List.pairwise_mergeSort (le := fun x y : Int => decide (x ≤ y)) (by intro a b c h1 h2; simp only [decide_eq_true_eq] at *; omega) (by intro a b; simp only [Bool.or_eq_true, decide_eq_true_eq]; omega) l
  exact p1.imp fun h => by simpa using h
theorem sorted_of {l sl : List Int} (hp : l.Perm sl) (hs : sl.Pairwise (· ≤ ·)) : sorted l = sl := by
  rw [sorted_same hp]
  unfold sorted
  exact List.mergeSort_of_pairwise (hs.imp fun h => by simpa using h)

end Go.Proofs.YtgihncjllelonaaGreat.Lw

/- Rows read, small facts of the laws of scc. -/
namespace Go.Proofs.YtgihncjllelonaaGreat.Lw
open Go Go.RowKit Go.Proofs.YtgihncjllelonaaGreat.Mem Go.Proofs.YtgihncjllelonaaGreat.Sl Go.Proofs.YtgihncjllelonaaGreat.Scc Go.Proofs.YtgihncjllelonaaGreat.Tj Go.Proofs.YtgihncjllelonaaGreatW.PrintWords Go.Proofs.YtgihncjllelonaaGreatW.PrintLast
attribute [local go_sem ↓] Go.wp_at_zero Go.wp_at_succ
set_option linter.unusedSimpArgs false
set_option linter.unusedVariables false

theorem ArgV.below {w w' : World} {v : Value} {n size : Nat} {news : List Value} (h : ArgV w v n size news) (hb : Below w.heap.size w w') : ArgV w' v n size news := by
  refine ⟨h.1, h.2.1, h.2.2.imp id ?_⟩
  rintro ⟨ad, c, e, hn, hc⟩
  exact ⟨ad, c, e, hn, fun j u hu => (hb.cell (World.block_lt_of_cell? w _ (hc j u hu))).trans (hc j u hu)⟩

theorem RdL.nil (w : World) (A : Option Addr) : RdL w A [] := fun i r h => by simp at h

theorem of_rd (w : World) (Av Aa : Option Addr) (cv ca : Nat) (l : List Int) (arcs : List (Int × Int)) (hv : RdI w Av l) (ha : RdA w Aa arcs) (hn : l.length ≤ 999999) (hm : arcs.length ≤ 1000000)
    (k code : Nat) (ls : List (List Int)) (hR : ofS l arcs (sorted l) k = some (code, ls)) (hz : code ≠ 0 → ls = []) :
    Calls Tryz.prog 22 #[.slice Av l.length cv, .slice Aa arcs.length ca] w fun e w' => ∃ A c, e = .returned (.tuple #[.slice A ls.length c, .int .i64 (code : Int)]) ∧ RdL w' A ls ∧ Below w.heap.size w w' := by
  refine (of_calls w Av Aa cv ca _ _ l arcs ls hv ha (by omega) hm hR).mono ?_
  rintro e w' ⟨hb, h1, h2⟩
  by_cases hc : code = 0
  · obtain ⟨bo, vals, he, _, hrows⟩ := h2 hc
    rw [hc]
    exact ⟨_, _, he, RdL.of_rows hrows, hb⟩
  · rw [hz hc]
    exact ⟨none, 0, h1 hc, RdL.nil _ _, hb⟩

theorem One.start {w0 : World} {e : TypeId} {size : Nat} : One w0 e size (.slice none 0 0) 0 [] w0 := ⟨World.ownsRow_nil _ _ _ _, Below.refl _ _⟩
end Go.Proofs.YtgihncjllelonaaGreat.Lw

/- The arguments of the laws read as lists. -/
namespace Go.Proofs.YtgihncjllelonaaGreat.Lw
open Go Go.RowKit Go.ChangeShapes Go.WideShapes Go.ChangeAt Go.Deep Go.Proofs.YtgihncjllelonaaGreat.Mem
set_option linter.unusedSimpArgs false
set_option linter.unusedVariables false

theorem own : ownKnob Tryz.prog.godebug = none := by kernel_rfl
theorem laidOut : laidOutB Tryz.prog = true := by kernel_rfl
theorem cells_int : Tryz.prog.cellsOf 3 = 1 := by kernel_rfl
section
variable {H : Type} {enc : TypeId × Value → H} {W : World} {base : Nat} {v : Value} {d : DataW H} {p : List MemPlace}

set_option maxRecDepth 100000 in
theorem ints_in (hv : Value.okWide Tryz.prog W .any base 22 v) (h : DataW.Trod enc Tryz.prog W 0 (fun _ => true) true 22 v d p) : ∃ l : List Int, ArgV W v l.length 1 (ints l) := by
  obtain ⟨a0, len, cap, rfl⟩ := okWide_slice Tryz.underlying22 hv
  obtain ⟨fuel, hf⟩ := h
  rcases open_ints Tryz.underlying22 Tryz.underlying3 cells_int hf with ⟨hcs, hx⟩ | ⟨a, len', cap', zs, hcs, _, hl, hm, hz, hx, hcell, hwz⟩
  · simp [Value.cells] at hcs
    obtain ⟨rfl, rfl, rfl⟩ := hcs
    exact ⟨[], rfl, by simp [ints], .inl ⟨rfl, rfl⟩⟩
  · simp [Value.cells] at hcs
    obtain ⟨rfl, rfl, rfl⟩ := hcs
    simp only [if_true] at hz
    have hlen : (zs.take len).length = len := by rw [List.length_take]; omega
    refine ⟨zs.take len, by rw [ints_length, Nat.mul_one], ints_one _, .inr ⟨a, cap, by rw [hlen], by rw [hlen]; exact hl, fun j u hu => ?_⟩⟩
    have hj : j < len := by
      have := (List.getElem?_eq_some_iff.1 hu).1
      rw [ints_length, hlen] at this
      exact this
    rw [hcell j (by omega), ← hu]
    have he : (zs.take len)[j]? = some (zs.getD j 0) := by
      rw [List.getElem?_take, if_pos hj, List.getD_eq_getElem?_getD, List.getElem?_eq_getElem (by omega)]
      rfl
    exact (Mem.ints_at _ he).symm

end

end Go.Proofs.YtgihncjllelonaaGreat.Lw

/- A map from int to int in a block of its own, told by what it holds. -/
namespace Go.Proofs.YtgihncjllelonaaGreat.Mem
set_option linter.unusedSimpArgs false
set_option linter.unusedVariables false
open Go Go.RowKit Go.MapKept

theorem nodup_inj {α : Type} {l : List α} (h : l.Nodup) {i j : Nat} (hi : i < l.length) (hj : j < l.length) (he : l[i] = l[j]) : i = j := by
  rcases Nat.lt_trichotomy i j with h1 | h1 | h1
  · exact absurd he (List.pairwise_iff_getElem.1 h i j hi hj h1)
  · exact h1
  · exact absurd he.symm (List.pairwise_iff_getElem.1 h j i hj hi h1)

def MP (w : World) (b : Nat) (f : Int → Option Int) : Prop :=
  ∃ es clock, w.heap[b]? = some (.map es clock) ∧ Stamped es clock ∧ (∀ x ∈ es.toList, ∃ a v : Int, x.key = .int .i64 a ∧ x.val = .int .i64 v) ∧
    ∀ a v : Int, f a = some v ↔ ∃ x ∈ es.toList, x.key = .int .i64 a ∧ x.val = .int .i64 v

def putObj (w : World) (b : Nat) (o : Obj) : World := { w with heap := w.heap.setIfInBounds b o }
theorem putObj_far {w : World} {b : Nat} {o : Obj} {g : Nat} (h : g ≠ b) : (putObj w b o).heap[g]? = w.heap[g]? := by simp [putObj, Ne.symm h]
theorem At.putObj {w : World} {g : Nat} {cs : List Value} {T : TypeId} (h : At w g cs T) {b : Nat} {o : Obj} (hne : g ≠ b) : At (putObj w b o) g cs T := (putObj_far hne).trans h
theorem putObj_size (w : World) (b : Nat) (o : Obj) : (putObj w b o).heap.size = w.heap.size := by simp [putObj]
theorem below_putObj {B : Nat} {a w : World} (h : Below B a w) {b : Nat} (hb : B ≤ b) (o : Obj) : Below B a (putObj w b o) :=
  ⟨h.os, h.tape, h.output, by rw [putObj_size]; exact h.size, fun k hk => (putObj_far (by omega)).trans (h.block k hk)⟩
theorem own_putObj {w : World} {base b : Nat} {e : TypeId} {size n : Nat} {v : Value} {xs : List Value} (h : w.ownsRow base e size v n xs) {o : Obj} (hb : b < base) : (putObj w b o).ownsRow base e size v n xs := by
  refine ⟨h.1, ?_⟩
  rcases h.2 with h0 | ⟨g, cap, cur, rfl, hg, hh, r⟩
  · exact .inl h0
  · exact .inr ⟨g, cap, cur, rfl, hg, (putObj_far (by omega)).trans hh, r⟩

section
variable {w w' : World} {b : Nat} {f : Int → Option Int}
theorem MP.lt (h : MP w b f) : b < w.heap.size := by
  obtain ⟨es, clock, hb, _⟩ := h
  exact lt_of_block hb
theorem MP.move (h : MP w b f) (he : w'.heap[b]? = w.heap[b]?) : MP w' b f := by
  obtain ⟨es, clock, hb, r⟩ := h
  exact ⟨es, clock, he.trans hb, r⟩
theorem MP.drew (h : MP w b f) : MP w.drew b f := h
theorem MP.drewN (h : MP w b f) (n : Nat) : MP (w.drewN n) b f := h
theorem MP.al (h : MP w b f) {o : Obj} : MP (w.alloc o) b f := h.move (Below.heap_alloc w o b h.lt)
theorem MP.ne (h : MP w b f) {g : Nat} {cs : List Value} {T : TypeId} (hg : At w g cs T) : g ≠ b := by
  rintro rfl
  obtain ⟨es, clock, hb, _⟩ := h
  have := hg.symm.trans hb
  simp at this
theorem MP.off (h : MP w b f) {g i : Nat} {u : Value} (hg : g ≠ b) : MP (w.setCell ⟨g, i, none⟩ u) b f := h.move (heap_setCell_other w ⟨g, i, none⟩ b u hg.symm)
theorem MP.grown (h : MP w b f) {row : Option Nat} (hg : w.grownBy w' row) (hne : some b ≠ row) : MP w' b f := h.move (hg.block b h.lt hne)
theorem MP.below (h : MP w b f) {B : Nat} (hb : Below B w w') (hB : b < B) : MP w' b f := h.move (hb.block b hB)
theorem MP.own (h : MP w b f) {base : Nat} {e : TypeId} {size n : Nat} {v : Value} {xs : List Value} (ho : w.ownsRow base e size v n xs) : some b ≠ v.ownBlock := by
  intro he
  rcases ho.2 with ⟨rfl, _⟩ | ⟨g, cap, cur, rfl, _, hh, _⟩
  · simp [Value.ownBlock] at he
  · have : b = g := by simpa [Value.ownBlock] using he
    subst this
    obtain ⟨es, clock, hb, _⟩ := h
    have := hb.symm.trans hh
    simp at this
theorem MP.new (w : World) : MP (w.alloc (.map #[] 0)) w.heap.size fun _ => none :=
  ⟨#[], 0, heap_alloc_new w _, ⟨by simp, by simp, by simp⟩, by simp, by simp⟩

variable {P : Program} {T K E : TypeId}

theorem keys_of {es : Array MapEntry} (h : ∀ x ∈ es.toList, ∃ a v : Int, x.key = .int .i64 a ∧ x.val = .int .i64 v) : ∀ x ∈ es.toList, IsKey (.int .i64) x.key := fun x hx => by
  obtain ⟨a, v, h1, _⟩ := h x hx
  rw [h1]
  simp [IsKey]

theorem mem_modify {es : Array MapEntry} (hn : (es.toList.map (·.key)).Nodup) {j : Nat} {e : MapEntry} (he : es.toList[j]? = some e) (g : MapEntry → MapEntry) (x : MapEntry) :
    x ∈ (es.modify j g).toList ↔ x = g e ∨ (x ∈ es.toList ∧ x.key ≠ e.key) := by
  have hj : j < es.toList.length := (List.getElem?_eq_some_iff.1 he).1
  have hidx : ∀ i y, es.toList[i]? = some y → y.key = e.key → i = j := by
    intro i y hy hk
    have hi : i < es.toList.length := (List.getElem?_eq_some_iff.1 hy).1
    have h1 : (es.toList.map (·.key))[i]'(by simpa using hi) = (es.toList.map (·.key))[j]'(by simpa using hj) := by
      rw [List.getElem_map, List.getElem_map, (List.getElem?_eq_some_iff.1 hy).2, (List.getElem?_eq_some_iff.1 he).2, hk]
    exact nodup_inj hn _ _ h1
  rw [List.mem_iff_getElem?]
  constructor
  · rintro ⟨i, hi⟩
    rw [Array.getElem?_toList, Array.getElem?_modify] at hi
    by_cases hij : j = i
    · subst hij
      rw [if_pos rfl, ← Array.getElem?_toList, he] at hi
      left
      simpa using hi.symm
    · rw [if_neg hij, ← Array.getElem?_toList] at hi
      right
      exact ⟨List.mem_of_getElem? hi, fun hk => hij (hidx i x hi hk).symm⟩
  · rintro (rfl | ⟨hx, hk⟩)
    · refine ⟨j, ?_⟩
      rw [Array.getElem?_toList, Array.getElem?_modify, if_pos rfl, ← Array.getElem?_toList, he]
      rfl
    · obtain ⟨i, hi⟩ := List.mem_iff_getElem?.1 hx
      refine ⟨i, ?_⟩
      have hij : j ≠ i := by
        rintro rfl
        rw [he] at hi
        cases hi
        exact hk rfl
      rw [Array.getElem?_toList, Array.getElem?_modify, if_neg hij, ← Array.getElem?_toList, hi]

theorem mem_erase {es : Array MapEntry} (hn : (es.toList.map (·.key)).Nodup) {j : Nat} {e : MapEntry} (he : es.toList[j]? = some e) (x : MapEntry) :
    x ∈ (es.eraseIdxIfInBounds j).toList ↔ (x ∈ es.toList ∧ x.key ≠ e.key) := by
  have hj : j < es.toList.length := (List.getElem?_eq_some_iff.1 he).1
  have hidx : ∀ i y, es.toList[i]? = some y → y.key = e.key → i = j := by
    intro i y hy hk
    have hi : i < es.toList.length := (List.getElem?_eq_some_iff.1 hy).1
    have h1 : (es.toList.map (·.key))[i]'(by simpa using hi) = (es.toList.map (·.key))[j]'(by simpa using hj) := by
      rw [List.getElem_map, List.getElem_map, (List.getElem?_eq_some_iff.1 hy).2, (List.getElem?_eq_some_iff.1 he).2, hk]
    exact nodup_inj hn _ _ h1
  have hj' : j < es.size := by simpa using hj
  have h0 : (es.eraseIdxIfInBounds j).toList = es.toList.eraseIdx j := by
    unfold Array.eraseIdxIfInBounds
    rw [dif_pos hj', Array.toList_eraseIdx]
  rw [h0, List.mem_eraseIdx_iff_getElem?]
  constructor
  · rintro ⟨i, hij, hi⟩
    exact ⟨List.mem_of_getElem? hi, fun hk => hij (hidx i x hi hk)⟩
  · rintro ⟨hx, hk⟩
    obtain ⟨i, hi⟩ := List.mem_iff_getElem?.1 hx
    refine ⟨i, ?_, hi⟩
    rintro rfl
    rw [he] at hi
    cases hi
    exact hk rfl

theorem MP.find (h : MP w b f) (k : Int) : ∃ es clock, w.heap[b]? = some (.map es clock) ∧ Stamped es clock ∧ (∀ x ∈ es.toList, ∃ a v : Int, x.key = .int .i64 a ∧ x.val = .int .i64 v) ∧
    (∀ a v : Int, f a = some v ↔ ∃ x ∈ es.toList, x.key = .int .i64 a ∧ x.val = .int .i64 v) ∧
    ((f k = none ∧ Instr.findNow (.int .i64) (.int .i64 k) es.toList 0 = some none ∧ ∀ x ∈ es.toList, x.key ≠ .int .i64 k) ∨
     ∃ (v : Int) (j : Nat) (e : MapEntry), f k = some v ∧ Instr.findNow (.int .i64) (.int .i64 k) es.toList 0 = some (some (j, .int .i64 v)) ∧ es.toList[j]? = some e ∧ e.key = .int .i64 k ∧ e.val = .int .i64 v) := by
  obtain ⟨es, clock, hb, hs, hk, hf⟩ := h
  refine ⟨es, clock, hb, hs, hk, hf, ?_⟩
  rcases findNow_spec (d := .int .i64) (k := .int .i64 k) (by simp [IsKey]) es.toList 0 (keys_of hk) with ⟨h1, h2⟩ | ⟨j, e, h1, h2, h3⟩
  · left
    refine ⟨?_, h1, h2⟩
    cases hfk : f k with
    | none => rfl
    | some v =>
      obtain ⟨x, hx, h4, _⟩ := (hf k v).1 hfk
      exact absurd h4 (h2 x hx)
  · right
    obtain ⟨a, v, h4, h5⟩ := hk e (List.mem_of_getElem? h2)
    rw [h3] at h4
    cases h4
    refine ⟨v, j, e, (hf k v).2 ⟨e, List.mem_of_getElem? h2, h3, h5⟩, ?_, h2, h3, h5⟩
    rw [h1, Nat.zero_add, h5]

theorem MP.lookup_ok (h : MP w b f) (hT : P.underlying T = some (.map K E)) (hK : P.underlying K = some (.int .i64)) (hz : ∀ w, (zeroValue E).run P w = .ok (.int .i64 0) w) (k : Int) :
    (Instr.lookup T (.map (some b)) (.int .i64 k) true).run P w = .ok (.tuple #[.int .i64 ((f k).getD 0), .bool (f k).isSome]) w := by
  obtain ⟨es, clock, hb, hs, hk, hf, hc⟩ := h.find k
  have hik : IsKey (.int .i64) (.int .i64 k) := by simp [IsKey]
  rcases hc with ⟨h1, h2, _⟩ | ⟨v, j, e, h1, h2, _⟩
  · simp [Instr.lookup, run_underlying hT, MapKept.run_getObj_map hb, run_checkKey hK hik, run_findKey hK h2, hz, h1, Result.andThen]
  · simp [Instr.lookup, run_underlying hT, MapKept.run_getObj_map hb, run_checkKey hK hik, run_findKey hK h2, h1, Result.andThen]

def upd (f : Int → Option Int) (k : Int) (v : Option Int) : Int → Option Int := fun x => if x = k then v else f x

theorem MP.turn {es : Array MapEntry} {clock : Nat} {k _v u : Int} {j : Nat} {e : MapEntry} (hb : w.heap[b]? = some (.map es clock)) (hs : Stamped es clock) (hk : ∀ x ∈ es.toList, ∃ a v : Int, x.key = .int .i64 a ∧ x.val = .int .i64 v)
    (hf : ∀ a v : Int, f a = some v ↔ ∃ x ∈ es.toList, x.key = .int .i64 a ∧ x.val = .int .i64 v) (hj : es.toList[j]? = some e) (he : e.key = .int .i64 k) (g : MapEntry → MapEntry) (hg : (g e).key = .int .i64 k ∧ (g e).val = .int .i64 u ∧ (g e).born = e.born)
    (_hg2 : ∀ e', es[j]? = some e' → (g e').born = e'.born) (_hg3 : ∀ e', es[j]? = some e' → (g e').key = e'.key) :
    MP (putObj w b (.map (es.modify j g) clock)) b (upd f k (some u)) := by
  refine ⟨es.modify j g, clock, by simp [putObj, lt_of_block hb], ?_, ?_, ?_⟩
  · have hes : es[j]? = some e := by rw [← Array.getElem?_toList]; exact hj
    obtain ⟨s1, s2, s3⟩ := hs
    have hborn : (es.modify j g).toList.map (·.born) = es.toList.map (·.born) := by
      apply List.ext_getElem?
      intro i
      rw [List.getElem?_map, List.getElem?_map, Array.getElem?_toList, Array.getElem?_toList, Array.getElem?_modify]
      by_cases hij : j = i
      · subst hij
        rw [if_pos rfl, hes]
        simp [hg.2.2]
      · rw [if_neg hij]
    have hkey : (es.modify j g).toList.map (·.key) = es.toList.map (·.key) := by
      apply List.ext_getElem?
      intro i
      rw [List.getElem?_map, List.getElem?_map, Array.getElem?_toList, Array.getElem?_toList, Array.getElem?_modify]
      by_cases hij : j = i
      · subst hij
        rw [if_pos rfl, hes]
        simp [hg.1, he]
      · rw [if_neg hij]
    refine ⟨?_, by rw [hborn]; exact s2, by rw [hkey]; exact s3⟩
    intro x hx
    have : x.born ∈ (es.modify j g).toList.map (·.born) := List.mem_map.2 ⟨x, hx, rfl⟩
    rw [hborn] at this
    obtain ⟨y, hy, hyb⟩ := List.mem_map.1 this
    rw [← hyb]
    exact s1 y hy
  · intro x hx
    rcases (mem_modify hs.2.2 hj g x).1 hx with rfl | ⟨h1, _⟩
    · exact ⟨k, u, hg.1, hg.2.1⟩
    · exact hk x h1
  · intro a v'
    unfold upd
    by_cases ha : a = k
    · subst ha
      rw [if_pos rfl]
      constructor
      · intro h
        cases h
        exact ⟨g e, (mem_modify hs.2.2 hj g _).2 (.inl rfl), hg.1, hg.2.1⟩
      · rintro ⟨x, hx, h1, h2⟩
        rcases (mem_modify hs.2.2 hj g x).1 hx with rfl | ⟨_, h3⟩
        · rw [hg.2.1] at h2
          cases h2
          rfl
        · rw [he] at h3
          exact absurd h1 h3
    · rw [if_neg ha, hf]
      constructor
      · rintro ⟨x, hx, h1, h2⟩
        exact ⟨x, (mem_modify hs.2.2 hj g x).2 (.inr ⟨hx, by rw [h1, he]; simpa using ha⟩), h1, h2⟩
      · rintro ⟨x, hx, h1, h2⟩
        rcases (mem_modify hs.2.2 hj g x).1 hx with rfl | ⟨h3, _⟩
        · rw [hg.1] at h1
          cases h1
          exact absurd rfl ha
        · exact ⟨x, h3, h1, h2⟩

theorem MP.update (h : MP w b f) (hT : P.underlying T = some (.map K E)) (hK : P.underlying K = some (.int .i64)) (k u : Int) :
    ∃ o, (Instr.mapUpdate T (.map (some b)) (.int .i64 k) (.int .i64 u)).run P w = .ok () (putObj w b o) ∧ MP (putObj w b o) b (upd f k (some u)) := by
  obtain ⟨es, clock, hb, hs, hk, hf, hc⟩ := h.find k
  have hik : IsKey (.int .i64) (.int .i64 k) := by simp [IsKey]
  rcases hc with ⟨h1, h2, h3⟩ | ⟨v, j, e, h1, h2, hj, he, hv⟩
  · refine ⟨.map (es.push { key := .int .i64 k, val := .int .i64 u, born := clock }) (clock + 1), ?_, ?_⟩
    · simp [Instr.mapUpdate, run_underlying hT, MapKept.run_getObj_map hb, run_checkKey hK hik, run_findKey hK h2, MapKept.run_setObj_map _ hb, Result.andThen, putObj]
    · refine ⟨es.push { key := .int .i64 k, val := .int .i64 u, born := clock }, clock + 1, by simp [putObj, lt_of_block hb], ?_, ?_, ?_⟩
      · obtain ⟨s1, s2, s3⟩ := hs
        refine ⟨?_, ?_, ?_⟩
        · intro x hx
          simp only [Array.toList_push, List.mem_append, List.mem_singleton] at hx
          rcases hx with hx | rfl
          · have := s1 x hx; omega
          · simp
        · simp only [Array.toList_push, List.map_append, List.map_cons, List.map_nil]
          rw [List.nodup_append]
          refine ⟨s2, by simp, ?_⟩
          intro a ha c hc
          simp only [List.mem_singleton] at hc
          subst hc
          obtain ⟨x, hx, rfl⟩ := List.mem_map.1 ha
          have := s1 x hx
          omega
        · simp only [Array.toList_push, List.map_append, List.map_cons, List.map_nil]
          rw [List.nodup_append]
          refine ⟨s3, by simp, ?_⟩
          intro a ha c hc
          simp only [List.mem_singleton] at hc
          subst hc
          obtain ⟨x, hx, rfl⟩ := List.mem_map.1 ha
          exact h3 x hx
      · intro x hx
        simp only [Array.toList_push, List.mem_append, List.mem_singleton] at hx
        rcases hx with hx | rfl
        · exact hk x hx
        · exact ⟨k, u, rfl, rfl⟩
      · intro a v'
        unfold upd
        simp only [Array.toList_push, List.mem_append, List.mem_singleton]
        by_cases ha : a = k
        · subst ha
          rw [if_pos rfl]
          constructor
          · intro h
            cases h
            exact ⟨_, .inr rfl, rfl, rfl⟩
          · rintro ⟨x, hx | rfl, h4, h5⟩
            · exact absurd h4 (h3 x hx)
            · cases h5; rfl
        · rw [if_neg ha, hf]
          constructor
          · rintro ⟨x, hx, h4, h5⟩
            exact ⟨x, .inl hx, h4, h5⟩
          · rintro ⟨x, hx | rfl, h4, h5⟩
            · exact ⟨x, hx, h4, h5⟩
            · cases h4; exact absurd rfl ha
  · have hes : es[j]? = some e := by rw [← Array.getElem?_toList]; exact hj
    refine ⟨.map (es.modify j fun x => { x with key := .int .i64 k, val := .int .i64 u }) clock, ?_, ?_⟩
    · simp [Instr.mapUpdate, run_underlying hT, MapKept.run_getObj_map hb, run_checkKey hK hik, run_findKey hK h2, hes, he, run_keyThatStays hik, MapKept.run_setObj_map _ hb, Result.andThen, putObj]
    · exact MP.turn (_v := v) hb hs hk hf hj he _ ⟨rfl, rfl, rfl⟩ (fun _ _ => rfl) (fun e' h' => by rw [hes] at h'; cases h'; exact he.symm)

theorem MP.entry (h : MP w b f) (hT : P.underlying T = some (.map K E)) (hK : P.underlying K = some (.int .i64)) (k u v : Int) (hv : f k = some v) :
    ∃ (st : Nat) (o : Obj), (Instr.mapEntry T (.map (some b)) (.int .i64 k)).run P w = .ok (.tuple #[.int .i64 v, .int .i64 (st : Int)]) w ∧
      (Instr.entryStore T (.map (some b)) (.int .i64 (st : Int)) (.int .i64 u)).run P w = .ok () (putObj w b o) ∧ MP (putObj w b o) b (upd f k (some u)) := by
  obtain ⟨es, clock, hb, hs, hk, hf, hc⟩ := h.find k
  have hik : IsKey (.int .i64) (.int .i64 k) := by simp [IsKey]
  rcases hc with ⟨h1, _, _⟩ | ⟨v', j, e, h1, h2, hj, he, hv'⟩
  · rw [h1] at hv; cases hv
  · rw [h1] at hv
    cases hv
    have hes : es[j]? = some e := by rw [← Array.getElem?_toList]; exact hj
    have hjl : j < es.size := (Array.getElem?_eq_some_iff.1 hes).1
    have hsame : es.modify j (fun x => { x with key := .int .i64 k }) = es := by
      apply Array.ext_getElem?
      intro i
      rw [Array.getElem?_modify]
      by_cases hij : j = i
      · subst hij
        rw [if_pos rfl, hes]
        simp only [Option.map_some]
        rw [← he]
      · rw [if_neg hij]
    have hw : ({ w with heap := w.heap.setIfInBounds b (.map es clock) } : World) = w := by
      have : w.heap.setIfInBounds b (.map es clock) = w.heap := by
        apply Array.ext_getElem?
        intro i
        rw [Array.getElem?_setIfInBounds]
        split
        · rename_i hi
          subst hi
          rw [if_pos (lt_of_block hb), hb]
        · rfl
      rw [this]
    have hfi : es.findIdx? (fun x => (x.born : Int) == (e.born : Int)) = some j := by
      rw [Array.findIdx?_eq_some_iff_getElem]
      refine ⟨hjl, ?_, ?_⟩
      · rw [(Array.getElem?_eq_some_iff.1 hes).2]; simp
      · intro i hi
        have hin : ¬ (es[i].born = e.born) := by
          intro hbe
          have hn := hs.2.1
          have h5 : (es.toList.map (·.born))[i]'(by simp; omega) = (es.toList.map (·.born))[j]'(by simpa using hjl) := by
            simp only [List.getElem_map, Array.getElem_toList]
            rw [hbe, (Array.getElem?_eq_some_iff.1 hes).2]
          have := nodup_inj hn _ _ h5
          omega
        simp only [beq_iff_eq, Int.natCast_inj]
        exact hin
    refine ⟨e.born, .map (es.modify j fun x => { x with val := .int .i64 u }) clock, ?_, ?_, ?_⟩
    · simp [Instr.mapEntry, run_underlying hT, MapKept.run_getObj_map hb, run_checkKey hK hik, run_findKey hK h2, hes, he, run_keyThatStays hik, MapKept.run_setObj_map _ hb, Result.andThen, hsame, hw, goInt]
    · simp [Instr.entryStore, MapKept.run_getObj_map hb, MapKept.run_setObj_map _ hb, Result.andThen, hfi, putObj, asInt, asIntOf]
    · exact MP.turn (_v := v) hb hs hk hf hj he _ ⟨he, rfl, rfl⟩ (fun _ _ => rfl) (fun e' h' => rfl)

theorem MP.delete (h : MP w b f) (hT : P.underlying T = some (.map K E)) (hK : P.underlying K = some (.int .i64)) (k : Int) (ty : TypeId) (T2 : TypeId) :
    ∃ o, (Builtin.delete_ #[T, T2] ty #[.map (some b), .int .i64 k]).run P w = .ok (.tuple #[]) (putObj w b o) ∧ MP (putObj w b o) b (upd f k none) := by
  obtain ⟨es, clock, hb, hs, hk, hf, hc⟩ := h.find k
  have hik : IsKey (.int .i64) (.int .i64 k) := by simp [IsKey]
  rcases hc with ⟨h1, h2, h3⟩ | ⟨v, j, e, h1, h2, hj, he, hv⟩
  · refine ⟨.map es clock, ?_, ?_⟩
    · simp [Builtin.delete_, run_underlying hT, MapKept.run_getObj_map hb, run_checkKey hK hik, run_findKey hK h2, MapKept.run_setObj_map _ hb, Result.andThen, putObj]
    · refine ⟨es, clock, by simp [putObj, lt_of_block hb], hs, hk, ?_⟩
      intro a v'
      unfold upd
      by_cases ha : a = k
      · subst ha
        rw [if_pos rfl]
        constructor
        · intro h; cases h
        · rintro ⟨x, hx, h4, _⟩
          exact absurd h4 (h3 x hx)
      · rw [if_neg ha]; exact hf a v'
  · refine ⟨.map (es.eraseIdxIfInBounds j) clock, ?_, ?_⟩
    · simp [Builtin.delete_, run_underlying hT, MapKept.run_getObj_map hb, run_checkKey hK hik, run_findKey hK h2, MapKept.run_setObj_map _ hb, Result.andThen, putObj]
    · refine ⟨es.eraseIdxIfInBounds j, clock, by simp [putObj, lt_of_block hb], stamped_erase hs j, ?_, ?_⟩
      · intro x hx
        exact hk x ((mem_erase hs.2.2 hj x).1 hx).1
      · intro a v'
        unfold upd
        by_cases ha : a = k
        · subst ha
          rw [if_pos rfl]
          constructor
          · intro h; cases h
          · rintro ⟨x, hx, h4, _⟩
            have := ((mem_erase hs.2.2 hj x).1 hx).2
            rw [he] at this
            exact absurd h4 this
        · rw [if_neg ha, hf]
          constructor
          · rintro ⟨x, hx, h4, h5⟩
            exact ⟨x, (mem_erase hs.2.2 hj x).2 ⟨hx, by rw [h4, he]; simpa using ha⟩, h4, h5⟩
          · rintro ⟨x, hx, h4, h5⟩
            exact ⟨x, ((mem_erase hs.2.2 hj x).1 hx).1, h4, h5⟩
end
end Go.Proofs.YtgihncjllelonaaGreat.Mem
