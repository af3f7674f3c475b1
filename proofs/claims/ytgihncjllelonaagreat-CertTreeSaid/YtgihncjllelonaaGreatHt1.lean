/- Memory words of this work: a block known whole, rows of numbers, what a step keeps. -/
import Derived.WalkKit
import Derived.Deep.AppendLies
import Derived.WalkSmall
namespace Go.Proofs.YtgihncjllelonaaGreat.Mem
set_option linter.unusedSimpArgs false
set_option linter.unusedVariables false
open Go Go.RowKit

def bA (n m : Nat) : Array Bool := ((List.range n).map m.testBit).toArray
/-! Short names for what an act's slot is written out by. -/
theorem pA {α : Type _} (l : List α) (i : Nat) (a : α) : l.toArray.setIfInBounds i a = (l.set i a).toArray := List.setIfInBounds_toArray l i a
theorem pB {α : Type _} (x : α) (r : List α) (a : α) : (x :: r).set 0 a = a :: r := List.set_cons_zero
theorem pC {α : Type _} (x : α) (r : List α) (n : Nat) (a : α) : (x :: r).set (n + 1) a = x :: r.set n a := List.set_cons_succ
theorem pD (n : Int) : IntKind.i64.wrap n = Go.RowKit.wrap64 n := by unfold Go.RowKit.wrap64; exact IntKind.wrap_i64 n
theorem pE (n : Int) : IntKind.i32.wrap n = Go.RowKit.wrap32 n := by unfold Go.RowKit.wrap32; exact IntKind.wrap_i32 n
def At (w : World) (g : Nat) (cs : List Value) (T : TypeId) : Prop := w.heap[g]? = some (.cells cs.toArray T (0, 0))

section
variable {w w' : World} {g g' : Nat} {cs cs' : List Value} {T T' : TypeId}
theorem At.lt (h : At w g cs T) : g < w.heap.size := lt_of_block h
theorem At.cell? (h : At w g cs T) (i : Nat) : w.cell? ⟨g, i, none⟩ = cs[i]? := by
  have := cell_of_row w g i cs.toArray T (0, 0) h
  simpa using this
theorem At.cell (h : At w g cs T) (i : Nat) {v : Value} (hv : cs[i]? = some v) : w.cell? ⟨g, i, none⟩ = some v := (h.cell? i).trans hv
theorem At.free (h : At w g cs T) (i : Nat) : w.frozen? ⟨g, i, none⟩ = false := frozen_of_row w g i cs.toArray T h
theorem At.set (h : At w g cs T) (i : Nat) (u : Value) : At (w.setCell ⟨g, i, none⟩ u) g (cs.set i u) T := by
  have := heap_setCell_same w g i cs.toArray T u h
  unfold At
  rw [this]
  simp
theorem At.far (h : At w g cs T) {a : Addr} (hne : g ≠ a.block) (u : Value) : At (w.setCell a u) g cs T := (heap_setCell_other w a g u hne).trans h
theorem At.off (h : At w g cs T) {g' i : Nat} (hne : g ≠ g') {u : Value} : At (w.setCell ⟨g', i, none⟩ u) g cs T := h.far hne u
theorem At.put (h : At w g cs T) {i : Nat} {u : Value} (hc : cs' = cs.set i u) : At (w.setCell ⟨g, i, none⟩ u) g cs' T := hc ▸ h.set i u
theorem At.alloc (h : At w g cs T) (o : Obj) : At (w.alloc o) g cs T := (Below.heap_alloc w o g h.lt).trans h
theorem At.al (h : At w g cs T) {o : Obj} : At (w.alloc o) g cs T := h.alloc o
theorem At.drew (h : At w g cs T) : At w.drew g cs T := h
theorem At.drewN (h : At w g cs T) (n : Nat) : At (w.drewN n) g cs T := h
theorem At.grown (h : At w g cs T) {row : Option Nat} (hg : w.grownBy w' row) (hne : some g ≠ row) : At w' g cs T := (hg.block g h.lt hne).trans h
theorem At.below (h : At w g cs T) {B : Nat} (hb : Below B w w') (hg : g < B) : At w' g cs T := (hb.block g hg).trans h
theorem At.ne (h : At w g cs T) (h' : At w g' cs' T') (hne : T ≠ T') : g ≠ g' := by
  rintro rfl
  have := h.symm.trans h'
  simp at this
  exact hne this.2
theorem At.new (w : World) (a : Array Value) (T : TypeId) : At (w.alloc (.cells a T)) w.heap.size a.toList T := by
  unfold At
  rw [heap_alloc_new]
theorem At.made {w : World} {k : Nat} {a : Array Value} {cs : List Value} {T : TypeId} (hk : w.heap.size = k) (hc : a.toList = cs) : At (w.alloc (.cells a T)) k cs T := by
  subst hk hc
  exact At.new w a T
end

def ints (l : List Int) : List Value := l.map fun x => .int .i64 x
def nats (l : List Nat) : List Value := l.map fun (x : Nat) => .int .i64 (x : Int)
def bls (l : List Bool) : List Value := l.map fun x => .bool x
theorem ints_length (l : List Int) : (ints l).length = l.length := by simp [ints]
theorem bls_length (l : List Bool) : (bls l).length = l.length := by simp [bls]
theorem nats_set (l : List Nat) (i x : Nat) : (nats l).set i (.int .i64 (x : Int)) = nats (l.set i x) := by simp [nats, List.map_set]
theorem ints_set (l : List Int) (i : Nat) (x : Int) : (ints l).set i (.int .i64 x) = ints (l.set i x) := by simp [ints, List.map_set]
theorem bls_set (l : List Bool) (i : Nat) (x : Bool) : (bls l).set i (.bool x) = bls (l.set i x) := by simp [bls, List.map_set]
theorem nats_snoc (l : List Nat) (x : Nat) : nats l ++ [.int .i64 (x : Int)] = nats (l ++ [x]) := by simp [nats]
theorem ints_snoc (l : List Int) (x : Int) : ints l ++ [.int .i64 x] = ints (l ++ [x]) := by simp [ints]
theorem nats_at (l : List Nat) {i x : Nat} (h : l[i]? = some x) : (nats l)[i]? = some (.int .i64 (x : Int)) := by simp [nats, h]
theorem ints_at (l : List Int) {i : Nat} {x : Int} (h : l[i]? = some x) : (ints l)[i]? = some (.int .i64 x) := by simp [ints, h]
theorem bls_at (l : List Bool) {i : Nat} {x : Bool} (h : l[i]? = some x) : (bls l)[i]? = some (.bool x) := by simp [bls, h]

theorem gen_world {P : Program} {c : Code} {Q : Exit → Act → World → Prop} {a : Act} {w : World} (I : World → Prop) (h : I w) (k : ∀ W, I W → Code.wp P c Q a W) : Code.wp P c Q a w := k w h

theorem gen_then {K : Act → World → Prop} {Q : Exit → Act → World → Prop} {a : Act} {w : World} (I : World → Prop) (h : I w) (k : ∀ W, I W → Exit.then K Q .normal a W) : Exit.then K Q .normal a w := k w h

theorem gen_q {Q : Exit → Act → World → Prop} {e : Exit} {a : Act} {w : World} (I : World → Prop) (h : I w) (k : ∀ W, I W → Q e a W) : Q e a w := k w h

theorem _root_.Go.World.ownsRow.setB {w : World} {base : Nat} {e : TypeId} {size n : Nat} {v : Value} {xs : List Value} (h : w.ownsRow base e size v n xs) {g i : Nat} (hlt : g < base) {u : Value} : (w.setCell ⟨g, i, none⟩ u).ownsRow base e size v n xs :=
  ownsRow_setCell_below h (a := ⟨g, i, none⟩) hlt u
theorem own_off {w : World} {base g : Nat} {e T : TypeId} {size n : Nat} {v : Value} {xs cs : List Value} (h : w.ownsRow base e size v n xs) (hg : At w g cs T) (hne : T ≠ e) : some g ≠ v.ownBlock := by
  intro he
  rcases h.2 with ⟨rfl, _⟩ | ⟨g', cap, cur, rfl, _, hh, _⟩
  · simp [Value.ownBlock] at he
  · have : g = g' := by simpa [Value.ownBlock] using he
    subst this
    have := hg.symm.trans hh
    simp at this
    exact hne this.2
theorem own_at {w : World} {base g : Nat} {e : TypeId} {size n m c : Nat} {xs : List Value} (h : w.ownsRow base e size (.slice (some ⟨g, 0, none⟩) m c) n xs) : ∃ cs, At w g cs e := by
  rcases h.2 with ⟨h0, _⟩ | ⟨g', cap, cur, hv, _, hh, _⟩
  · cases h0
  · cases hv
    exact ⟨cur.toList, by unfold At; simpa using hh⟩
theorem own_apart {w : World} {base base' : Nat} {e e' : TypeId} {size size' n n' : Nat} {v v' : Value} {xs xs' : List Value} (h : w.ownsRow base e size v n xs) (h' : w.ownsRow base' e' size' v' n' xs') (hne : e ≠ e') : v.ownBlock = none ∨ v.ownBlock ≠ v'.ownBlock := by
  rcases h.2 with ⟨rfl, _⟩ | ⟨g, cap, cur, rfl, _, hh, _⟩
  · left; rfl
  · right
    have hA : At w g cur.toList e := by unfold At; simpa using hh
    exact own_off h' hA hne
theorem own_under {w : World} {base g : Nat} {e : TypeId} {size n : Nat} {v : Value} {xs : List Value} (h : w.ownsRow base e size v n xs) (hg : g < base) : some g ≠ v.ownBlock := by
  intro he
  have := (h.lt g he.symm).1
  omega
theorem own_base {w : World} {base base' : Nat} {e : TypeId} {size n : Nat} {v : Value} {xs : List Value} (h : w.ownsRow base e size v n xs) (hb : base' ≤ base) : w.ownsRow base' e size v n xs := by
  refine ⟨h.1, ?_⟩
  rcases h.2 with h0 | ⟨g', cap, cur, rfl, hb', r⟩
  · exact .inl h0
  · exact .inr ⟨g', cap, cur, rfl, Nat.le_trans hb hb', r⟩
end Go.Proofs.YtgihncjllelonaaGreat.Mem
