/- The printed steps of a region that draws its order, in short. -/
import Derived.Test.YtgihncjllelonaaHu1
import Derived.Test.YtgihncjllelonaaHu4
import Derived.BigRegion
import Derived.Shelf.Small.Bits
import Derived.Shelf.Small.Wraps
import Derived.Shelf.Sort.Plain
import Derived.Ground.Names2Prog
import Derived.Shelf.Slices.Clone
import Derived.Shelf.Slices.CompactI
import Derived.Shelf.Slices.SearchI
import Derived.Shelf.Slices.Cells
import Derived.Shelf.Slices.In.SortNone
import Derived.Shelf.Slices.Empties
import Derived.Test.YtgihncjllelonaaProg
import Derived.Sort.OwnSortedInts
import Derived.Test.YtgihncjllelonaaHu2
import Derived.Deep.RegionHeld3
import Derived.Deep.DrawnRows
import Derived.Deep.LoopGhost
import Derived.Deep.DeepCutAuto
import Derived.Outline
import Derived.WalkLawsBesides
import Derived.WalkSpells
import Derived.Lib.Hide
import Derived.Maps.AppendAt
import Derived.Deep.OwnRows
import Derived.Deep.RegionWith
import Derived.Great.BuildSlice
namespace Go.Proofs.Ytgihncjllelonaa.Mem
set_option linter.unusedSimpArgs false
set_option linter.unusedVariables false
open Go Go.RowKit Go.Proofs.YtgihncjllelonaaW.PrintWords Go.Proofs.YtgihncjllelonaaW.PrintLast
section
variable {P : Program} {ops : Array Oper} {Q : Exit → Act → World → Prop} {md : Region.Mode} {S : World → Prop} {ds : List Nat} {T : Bool × List (List Nat × List Nat)} {B : List Nat} {oi : Oper} {v : Value} {fuel : Nat} {l : Array Bool} {a a' : Act} {w : World}
theorem pw_ (i k : Nat) (l' : Array Bool) (hT : rtab md ops = T) (h : wpAnyLast P md ops Q S ds fuel l' a' w) (hi : ops[i]? = some oi := by rfl) (hN : oi.dst = some k := by rfl) (hc : anyT T l.toList l'.toList i = true := by kernel_rfl) (hQ : ∀ c a w, Q (.panic c) (a.put oi.dst v) w → Q (.panic c) a w := by exact fun _ _ _ h => h) (hy : Region.wanted oi (yielded ops a.tmps) = true := by rfl) (hv : ∀ w, (execOp a.eval oi).run P w = .ok (.value v) w := by intro w'; go_simp; with_reducible rfl) (ha : a.put (some k) v = a' := by simp only [Act.put, pA, pB, pC, pD, pE]; rfl) : wpAnyLast P md ops Q S ds (fuel + 1) l a w := pure_ l' hi hN (any_of hT hc) hQ (.inl ⟨hy, hv⟩) ha h
theorem pk_ (i k : Nat) (l' : Array Bool) (h : wpAnyLast P md ops Q S ds fuel l' a' w) (hi : ops[i]? = some oi := by rfl) (hN : oi.dst = some k := by rfl) (hc : anyB md ops l l' i = true := by kernel_rfl) (hQ : ∀ c a w, Q (.panic c) (a.put oi.dst v) w → Q (.panic c) a w := by exact fun _ _ _ h => h) (hy : Region.wanted oi (yielded ops a.tmps) = true := by rfl) (hv : ∀ w, (execOp a.eval oi).run P w = .ok (.value v) w := by intro w'; go_simp; with_reducible rfl) (ha : a.put (some k) v = a' := by simp only [Act.put, pA, pB, pC, pD, pE]; rfl) : wpAnyLast P md ops Q S ds (fuel + 1) l a w := pure_ l' hi hN hc hQ (.inl ⟨hy, hv⟩) ha h
theorem pu_ (i k : Nat) (l' : Array Bool) (hT : rtab md ops = T) (h : wpAnyLast P md ops Q S ds fuel l' a' w) (hi : ops[i]? = some oi := by rfl) (hN : oi.dst = some k := by rfl) (hc : anyT T l.toList l'.toList i = true := by kernel_rfl) (hQ : ∀ c a w, Q (.panic c) (a.put oi.dst undef) w → Q (.panic c) a w := by exact fun _ _ _ h => h) (hy : Region.wanted oi (yielded ops a.tmps) = false := by rfl) (ha : a.put (some k) undef = a' := by simp only [Act.put, pA, pB, pC, pD, pE]; rfl) : wpAnyLast P md ops Q S ds (fuel + 1) l a w := pure_ l' hi hN (any_of hT hc) hQ (.inr ⟨hy, rfl⟩) ha h
theorem tw_ (i k : Nat) (l' : Array Bool) (hT : rtab md ops = T) (hB : waitsOk T.2 B = true) (hS : S w) (hi : ops[i]? = some oi := by rfl) (hN : oi.dst = some k := by rfl) (hc : takeW T B ds l.toList l'.toList i = true := by kernel_rfl) (hQ : ∀ c a w, Q (.panic c) (a.put oi.dst v) w → Q (.panic c) a w := by exact fun _ _ _ h => h) (hy : Region.wanted oi (yielded ops a.tmps) = true := by rfl) (hv : ∀ w, S w → (execOp a.eval oi).run P w = .ok (.value v) w) (ha : a.put (some k) v = a' := by simp only [Act.put, pA, pB, pC, pD, pE]; rfl) (h : wpAnyLast P md ops Q S ds fuel l' a' w) : wpAnyLast P md ops Q S ds (fuel + 1) l a w := take_ l' hi hN (take_ofW hT hB hc) hQ (.inl ⟨hy, hv⟩) hS ha h
theorem tk_ (i k : Nat) (l' : Array Bool) (hS : S w) (hi : ops[i]? = some oi := by rfl) (hN : oi.dst = some k := by rfl) (hc : takeB md ops ds l l' i = true := by kernel_rfl) (hQ : ∀ c a w, Q (.panic c) (a.put oi.dst v) w → Q (.panic c) a w := by exact fun _ _ _ h => h) (hy : Region.wanted oi (yielded ops a.tmps) = true := by rfl) (hv : ∀ w, S w → (execOp a.eval oi).run P w = .ok (.value v) w) (ha : a.put (some k) v = a' := by simp only [Act.put, pA, pB, pC, pD, pE]; rfl) (h : wpAnyLast P md ops Q S ds fuel l' a' w) : wpAnyLast P md ops Q S ds (fuel + 1) l a w := take_ l' hi hN hc hQ (.inl ⟨hy, hv⟩) hS ha h
theorem gw_ {oi : Oper} {N : Option Tmp} {a : Act} {w : World} {K : Act → World → Prop} {f : FuncId} {fn : Func} {axs : Array Operand} {ts : Array TypeId} (hf : P.funcs[f]? = some fn) (args : Array Value) (h : Calls P f args w fun e w' => ∃ v, e = .returned v ∧ K (a.put N v) w')
    (hn : (fn.name == "runtime.NumGoroutine") = false := by kernel_rfl) (hb : fn.body.isSome = true := by rfl) (hw : Region.wanted oi (yielded ops a.tmps) = true := by rfl) (hN : oi.dst = N := by rfl) (hop : oi.op = .call { callee := .value (.func f), args := axs, argTypes := ts } := by rfl)
    (hargs : axs.map a.eval = args := by simp only [List.map_toArray, List.map_cons, List.map_nil]; rfl) : if Region.wanted oi (yielded ops a.tmps) = true then Oper.wp P oi a w K Q else K (a.put N undef) w := goes_ hf hn hb args hw hN hop hargs h
end
end Go.Proofs.Ytgihncjllelonaa.Mem

/-
  DERIVED: THE SHELF's CONTRACTS AT THIS DUMP, IN PLAIN WORDS (tools/lay-plain.mjs out of 'TryShelf.lean', which tools/lay-shelf.mjs wrote): THE SAME DECLARATIONS UNDER THE SAME NAMES: 'import', 'namespace', 'open', 'def', 'theorem' AND NOTHING ELSE: no command of the shelf's: FOR A HAND-IN. Each laying: the table of numbers ('.._ren') and one theorem, a field a fact of the dump's own or the kernel's comparison; each contract: ONE APPLICATION.
-/
namespace Go.Proofs
set_option linter.unusedSimpArgs false
set_option linter.unusedVariables false
open Go.Shelf
def Try.lays189_ren : Go.Shelf.Ren := ⟨fun | 189 => 22 | 125 => 55 | 257 => 54 | 128 => 82 | 129 => 83 | 294 => 73 | 295 => 74 | 296 => 75 | 297 => 76 | 298 => 77 | 299 => 78 | 216 => 79 | 300 => 80 | 301 => 81 | 328 => 102 | 329 => 103 | 330 => 104 | 331 => 105 | 332 => 106 | 215 => 92 | 343 => 111 | n => n, fun | 28 => 22 | 3 => 3 | 46 => 52 | 0 => 0 | 51 => 41 | 53 => 152 | 4 => 4 | 183 => 144 | 182 => 143 | 131 => 73 | 5 => 5 | 9 => 9 | 218 => 167 | 222 => 171 | 228 => 177 | 229 => 178 | n => n, fun | n => n⟩
theorem Try.lays189 : Go.Proofs.Lays.n189 Try.prog Try.lays189_ren := {
  mixed := by kernel_rfl
  f125 := Try.func55.trans (congrArg some (by kernel_rfl))
  f128 := Try.func82.trans (congrArg some (by kernel_rfl))
  f129 := Try.func83.trans (congrArg some (by kernel_rfl))
  f189 := Try.func22.trans (congrArg some (by kernel_rfl))
  f215 := Try.func92.trans (congrArg some (by kernel_rfl))
  f216 := Try.func79.trans (congrArg some (by kernel_rfl))
  f257 := Try.func54.trans (congrArg some (by kernel_rfl))
  f294 := Try.func73.trans (congrArg some (by kernel_rfl))
  f295 := Try.func74.trans (congrArg some (by kernel_rfl))
  f296 := Try.func75.trans (congrArg some (by kernel_rfl))
  f297 := Try.func76.trans (congrArg some (by kernel_rfl))
  f298 := Try.func77.trans (congrArg some (by kernel_rfl))
  f299 := Try.func78.trans (congrArg some (by kernel_rfl))
  f300 := Try.func80.trans (congrArg some (by kernel_rfl))
  f301 := Try.func81.trans (congrArg some (by kernel_rfl))
  f328 := Try.func102.trans (congrArg some (by kernel_rfl))
  f329 := Try.func103.trans (congrArg some (by kernel_rfl))
  f330 := Try.func104.trans (congrArg some (by kernel_rfl))
  f331 := Try.func105.trans (congrArg some (by kernel_rfl))
  f332 := Try.func106.trans (congrArg some (by kernel_rfl))
  f343 := Try.func111.trans (congrArg some (by kernel_rfl))
  t0 := Try.underlying0
  a0 := Try.isAgg0
  z0 := Try.sizeOf0
  v0 := Try.zeroValue0
  t3 := Try.underlying3
  a3 := Try.isAgg3
  z3 := Try.sizeOf3
  v3 := Try.zeroValue3
  t4 := Try.underlying4
  a4 := Try.isAgg4
  z4 := Try.sizeOf4
  v4 := Try.zeroValue4
  t5 := Try.underlying5
  a5 := Try.isAgg5
  z5 := Try.sizeOf5
  v5 := Try.zeroValue5
  t9 := Try.underlying9
  a9 := Try.isAgg9
  z9 := Try.sizeOf9
  v9 := Try.zeroValue9
  t28 := Try.underlying22
  a28 := Try.isAgg22
  z28 := Try.sizeOf22
  v28 := Try.zeroValue22
  t46 := Try.underlying52
  a46 := Try.isAgg52
  z46 := Try.sizeOf52
  v46 := Try.zeroValue52
  t51 := Try.underlying41
  a51 := Try.isAgg41
  z51 := Try.sizeOf41
  v51 := Try.zeroValue41
  t53 := Try.underlying152
  a53 := Try.isAgg152
  z53 := Try.sizeOf152
  v53 := Try.zeroValue152
  t131 := Try.underlying73
  a131 := Try.isAgg73
  z131 := Try.sizeOf73
  v131 := Try.zeroValue73
  t182 := Try.underlying143
  a182 := Try.isAgg143
  z182 := Try.sizeOf143
  v182 := Try.zeroValue143
  t183 := Try.underlying144
  a183 := Try.isAgg144
  z183 := Try.sizeOf144
  v183 := Try.zeroValue144
  t218 := Try.underlying167
  a218 := Try.isAgg167
  z218 := Try.sizeOf167
  v218 := Try.zeroValue167
  t222 := Try.underlying171
  a222 := Try.isAgg171
  z222 := Try.sizeOf171
  v222 := Try.zeroValue171
  t228 := Try.underlying177
  a228 := Try.isAgg177
  z228 := Try.sizeOf177
  v228 := Try.zeroValue177
  t229 := Try.underlying178
  a229 := Try.isAgg178
  z229 := Try.sizeOf178
  v229 := Try.zeroValue178 }
open Go.Sort Go.RowKit in
theorem Try.slices_Sort_int (blk off cap : Nat) (zs : List Int) (w : World) (hH : Holds (Value.int .i64) w blk off zs.toArray) (hblk : blk < w.heap.size) (hsz : zs.length < 4611686018427387904) :
    Calls Try.prog 22 #[.slice (some ⟨blk, off, none⟩) zs.length cap] w fun e w' =>
      e = .returned (.tuple #[]) ∧ ∃ n os, w' = grow (putRow (Value.int .i64) (Sort.ahead w n) blk off (zs.mergeSort fun x y => decide (x ≤ y)).toArray) os := Any.slices_Sort_int Try.lays189 blk off cap zs w hH hblk hsz
def Try.laysNm215_ren : Go.Shelf.Ren := ⟨fun | 15 => 21 | n => n, fun | 22 => 22 | 3 => 3 | 4 => 4 | n => n, fun | n => n⟩
theorem Try.laysNm215 : Go.Proofs.Lays2.n15 Try.prog Try.laysNm215_ren := {
  mixed := by kernel_rfl
  f15 := Try.func21.trans (congrArg some (by kernel_rfl))
  t3 := Try.underlying3
  a3 := Try.isAgg3
  z3 := Try.sizeOf3
  v3 := Try.zeroValue3
  t4 := Try.underlying4
  a4 := Try.isAgg4
  z4 := Try.sizeOf4
  v4 := Try.zeroValue4
  t22 := Try.underlying22
  a22 := Try.isAgg22
  z22 := Try.sizeOf22
  v22 := Try.zeroValue22
  i3 := by kernel_rfl }
open Go.RowKit Go.Lib in
theorem Try.slices_Clone_int (b off n c : Nat) (zs : List Int) (w : World) (hz : n ≤ zs.length) (hbig : n * 8 ≤ 140737488355328) (hc : ∀ j, j < zs.length → w.cell? ⟨b, off + j, none⟩ = some (.int .i64 (zs.getD j 0))) :
    Calls Try.prog 21 #[.slice (some ⟨b, off, none⟩) n c] w fun e w' => ∃ v', e = .returned v' ∧ w'.ownsRow w.heap.size 3 1 v' n ((zs.take n).map (Value.int .i64)) ∧ v' ≠ .slice none 0 0 ∧ Below w.heap.size w w' := Any.slices_Clone_int Try.laysNm215 b off n c zs w hz hbig hc
open Go.RowKit Go.Lib in
theorem Try.slices_Clone_int_nil (n c : Nat) (w : World) :
    Calls Try.prog 21 #[.slice none n c] w fun e w' => e = .returned (.slice none 0 0) ∧ w' = w := Any.slices_Clone_int_nil Try.laysNm215 n c w
open Go.RowKit Go.Lib in
theorem Try.slices_Clone_int_zero (a : Addr) (c : Nat) (w : World) :
    Calls Try.prog 21 #[.slice (some a) 0 c] w fun e w' => ∃ v', e = .returned v' ∧ w'.ownsRow w.heap.size 3 1 v' 0 [] ∧ v' ≠ .slice none 0 0 ∧ Below w.heap.size w w' := Any.slices_Clone_int_zero Try.laysNm215 a c w
def Try.laysNm220_ren : Go.Shelf.Ren := ⟨fun | 20 => 62 | n => n, fun | 22 => 22 | 3 => 3 | 4 => 4 | 0 => 0 | n => n, fun | n => n⟩
theorem Try.laysNm220 : Go.Proofs.Lays2.n20 Try.prog Try.laysNm220_ren := {
  mixed := by kernel_rfl
  f20 := Try.func62.trans (congrArg some (by kernel_rfl))
  t0 := Try.underlying0
  a0 := Try.isAgg0
  z0 := Try.sizeOf0
  v0 := Try.zeroValue0
  t3 := Try.underlying3
  a3 := Try.isAgg3
  z3 := Try.sizeOf3
  v3 := Try.zeroValue3
  t4 := Try.underlying4
  a4 := Try.isAgg4
  z4 := Try.sizeOf4
  v4 := Try.zeroValue4
  t22 := Try.underlying22
  a22 := Try.isAgg22
  z22 := Try.sizeOf22
  v22 := Try.zeroValue22
  i3 := by kernel_rfl }
open Go.RowKit Go.Lib Go.Sort in
theorem Try.slices_Compact_int (blk off cap : Nat) (zs : List Int) (w : World) (hH : Holds (Value.int .i64) w blk off zs.toArray) (hsz : zs.length ≤ 9223372036854775807) (hcap : zs.length ≤ cap) :
    Calls Try.prog 62 #[.slice (some ⟨blk, off, none⟩) zs.length cap] w fun e w' => e = .returned (.slice (some ⟨blk, off, none⟩) (Lib.compact zs).length cap) ∧ ∃ q, w' = putRow (Value.int .i64) (Sort.ahead w q) blk off (Lib.compact zs ++ List.replicate (zs.length - (Lib.compact zs).length) 0).toArray := Any.slices_Compact_int Try.laysNm220 blk off cap zs w hH hsz hcap
open Go.RowKit Go.Lib Go.Sort in
theorem Try.slices_Compact_int_empty (a : Option Addr) (cap : Nat) (w : World) :
    Calls Try.prog 62 #[.slice a 0 cap] w fun e w' => e = .returned (.slice a 0 cap) ∧ w' = w := Any.slices_Compact_int_empty Try.laysNm220 a cap w
def Try.laysNm225_ren : Go.Shelf.Ren := ⟨fun | 25 => 71 | 31 => 79 | 32 => 99 | 37 => 92 | n => n, fun | 22 => 22 | 3 => 3 | 4 => 4 | 40 => 52 | 0 => 0 | n => n, fun | n => n⟩
theorem Try.laysNm225 : Go.Proofs.Lays2.n25 Try.prog Try.laysNm225_ren := {
  mixed := by kernel_rfl
  f25 := Try.func71.trans (congrArg some (by kernel_rfl))
  f31 := Try.func79.trans (congrArg some (by kernel_rfl))
  f32 := Try.func99.trans (congrArg some (by kernel_rfl))
  f37 := Try.func92.trans (congrArg some (by kernel_rfl))
  t0 := Try.underlying0
  a0 := Try.isAgg0
  z0 := Try.sizeOf0
  v0 := Try.zeroValue0
  t3 := Try.underlying3
  a3 := Try.isAgg3
  z3 := Try.sizeOf3
  v3 := Try.zeroValue3
  t4 := Try.underlying4
  a4 := Try.isAgg4
  z4 := Try.sizeOf4
  v4 := Try.zeroValue4
  t22 := Try.underlying22
  a22 := Try.isAgg22
  z22 := Try.sizeOf22
  v22 := Try.zeroValue22
  t40 := Try.underlying52
  a40 := Try.isAgg52
  z40 := Try.sizeOf52
  v40 := Try.zeroValue52 }
open Go.RowKit Go.Lib in
theorem Try.slices_BinarySearch_int (b off n c : Nat) (zs : List Int) (x : Int) (w : World) (hz : n ≤ zs.length) (hbig : n < 4611686018427387904) (hc : ∀ j, j < zs.length → w.cell? ⟨b, off + j, none⟩ = some (.int .i64 (zs.getD j 0))) (hs : (zs.take n).Pairwise (· ≤ ·)) :
    Calls Try.prog 71 #[.slice (some ⟨b, off, none⟩) n c, .int .i64 x] w fun e w' => e = .returned (.tuple #[.int .i64 ((zs.take n).countP (· < x) : Nat), .bool ((zs.take n).contains x)]) ∧ ∃ q, w' = w.drewN q := Any.slices_BinarySearch_int Try.laysNm225 b off n c zs x w hz hbig hc hs
open Go.RowKit Go.Sort in
theorem Try.slices_Sort_int_none (p : Option Addr) (cap : Nat) (w : World) :
    Calls Try.prog 22 #[.slice p 0 cap] w fun e w' => e = .returned (.tuple #[]) ∧ w' = w := Any.slices_Sort_int_none Try.lays189 p cap w
open Go.RowKit Go.Lib in
theorem Try.slices_BinarySearch_int_empty (a : Option Addr) (c : Nat) (x : Int) (w : World) :
    Calls Try.prog 71 #[.slice a 0 c, .int .i64 x] w fun e w' => e = .returned (.tuple #[.int .i64 0, .bool false]) ∧ w' = w := Any.slices_BinarySearch_int_empty Try.laysNm225 a c x w
end Go.Proofs

/- The library's slices functions at []int, in this work's words: rows that the call owns, lists that can be read. -/
namespace Go.Proofs.Ytgihncjllelonaa.Sl
set_option linter.unusedSimpArgs false
set_option linter.unusedVariables false
open Go Go.RowKit Go.Proofs.Ytgihncjllelonaa.Mem

def RdI (w : World) (A : Option Addr) (l : List Int) : Prop := ∀ (j : Nat) (x : Int), l[j]? = some x → ∃ b, A = some ⟨b, 0, none⟩ ∧ w.cell? ⟨b, j, none⟩ = some (.int .i64 x)

theorem RdI.nil (w : World) (A : Option Addr) : RdI w A [] := fun j x h => by simp at h
theorem RdI.below {w w' : World} {A : Option Addr} {l : List Int} (h : RdI w A l) (hb : Below w.heap.size w w') : RdI w' A l := fun j x hx => by
  obtain ⟨b, h1, h2⟩ := h j x hx
  exact ⟨b, h1, (hb.cell (p := ⟨b, j, none⟩) (World.block_lt_of_cell? w _ h2)).trans h2⟩
theorem RdI.of_own {w : World} {base n c : Nat} {e : TypeId} {A : Option Addr} {l : List Int} (h : w.ownsRow base e 1 (.slice A n c) n (ints l)) : RdI w A l ∧ n = l.length := by
  have hn : n = l.length := by have := h.1; rw [ints_length] at this; omega
  refine ⟨fun j x hx => ?_, hn⟩
  have hj : j < l.length := (List.getElem?_eq_some_iff.1 hx).1
  obtain ⟨g, cap, hv, _⟩ := h.form (by omega)
  cases hv
  refine ⟨g, rfl, ?_⟩
  rw [h.cellAt j (by omega)]
  exact Mem.ints_at l hx
theorem RdI.cases {w : World} {A : Option Addr} {l : List Int} (h : RdI w A l) : l = [] ∨ ∃ b, A = some ⟨b, 0, none⟩ ∧ ∀ j, j < l.length → w.cell? ⟨b, 0 + j, none⟩ = some (.int .i64 (l.getD j 0)) := by
  cases l with
  | nil => exact .inl rfl
  | cons x r =>
    right
    obtain ⟨b, h1, _⟩ := h 0 x rfl
    refine ⟨b, h1, fun j hj => ?_⟩
    obtain ⟨b', h2, h3⟩ := h j ((x :: r).getD j 0) (by rw [List.getElem?_eq_getElem hj, List.getD_eq_getElem?_getD, List.getElem?_eq_getElem hj]; rfl)
    rw [h1] at h2
    cases h2
    rw [Nat.zero_add]
    exact h3

theorem clone_calls (w : World) (A : Option Addr) (c : Nat) (l : List Int) (h : RdI w A l) (hl : l.length ≤ 1000000) :
    Calls Try.prog 21 #[.slice A l.length c] w fun e w' => ∃ v', e = .returned v' ∧ w'.ownsRow w.heap.size 3 1 v' l.length (ints l) ∧ Below w.heap.size w w' := by
  rcases h.cases with rfl | ⟨b, rfl, hc⟩
  · cases A with
    | none =>
      refine (Try.slices_Clone_int_nil 0 c w).mono ?_
      rintro e w' ⟨rfl, rfl⟩
      exact ⟨_, rfl, World.ownsRow_nil _ _ _ _, Below.refl _ _⟩
    | some a =>
      refine (Try.slices_Clone_int_zero a c w).mono ?_
      rintro e w' ⟨v', rfl, h1, _, h2⟩
      exact ⟨_, rfl, h1, h2⟩
  · refine (Try.slices_Clone_int b 0 l.length c l w (Nat.le_refl _) (by omega) hc).mono ?_
    rintro e w' ⟨v', rfl, h1, _, h2⟩
    rw [List.take_length] at h1
    exact ⟨_, rfl, h1, h2⟩

def sorted (l : List Int) : List Int := l.mergeSort fun x y => decide (x ≤ y)
theorem sorted_length (l : List Int) : (sorted l).length = l.length := by simp [sorted]

theorem sort_calls (w : World) (base : Nat) (v : Value) (l : List Int) (h : w.ownsRow base 3 1 v l.length (ints l)) (hl : l.length ≤ 1000000) :
    Calls Try.prog 22 #[v] w fun e w' => e = .returned (.tuple #[]) ∧ w'.ownsRow base 3 1 v l.length (ints (sorted l)) ∧ w.grownBy w' v.ownBlock := by
  have h' := h
  rcases h.2 with ⟨rfl, h0⟩ | ⟨g, cap, cur, rfl, hbase, hb, h1, h2, h3, h4⟩
  · obtain rfl : l = [] := List.length_eq_zero_iff.1 h0
    refine (Try.slices_Sort_int_none none 0 w).mono ?_
    rintro e w' ⟨rfl, rfl⟩
    exact ⟨rfl, by simpa [sorted] using h', ⟨rfl, rfl, rfl, Nat.le_refl _, fun _ _ _ => rfl⟩⟩
  · refine (Try.slices_Sort_int g 0 cap l w (holds_of_blockI hb (by simpa [ints] using h4)) (Array.getElem?_eq_some_iff.1 hb).1 (by omega)).mono ?_
    rintro e w' ⟨rfl, n, os, rfl⟩
    exact ⟨rfl, ownsRow_sortedI (by simp) hbase hb h1 h2 h3, grownBy_sortedI _⟩

theorem compact_calls (w : World) (base : Nat) (v : Value) (l : List Int) (h : w.ownsRow base 3 1 v l.length (ints l)) (hl : l.length ≤ 1000000) :
    Calls Try.prog 62 #[v] w fun e w' => (∃ A c, e = .returned (.slice A (Lib.compact l).length c)) ∧ w.grownBy w' v.ownBlock := by
  rcases h.2 with ⟨rfl, h0⟩ | ⟨g, cap, cur, rfl, hbase, hb, h1, h2, h3, h4⟩
  · obtain rfl : l = [] := List.length_eq_zero_iff.1 h0
    refine (Try.slices_Compact_int_empty none 0 w).mono ?_
    rintro e w' ⟨rfl, rfl⟩
    exact ⟨⟨none, 0, rfl⟩, ⟨rfl, rfl, rfl, Nat.le_refl _, fun _ _ _ => rfl⟩⟩
  · refine (Try.slices_Compact_int g 0 cap l w (holds_of_blockI hb (by simpa [ints] using h4)) (by omega) h1).mono ?_
    rintro e w' ⟨rfl, q, rfl⟩
    refine ⟨⟨_, _, rfl⟩, ?_⟩
    have := grownBy_sortedI (w := w) (g := g) (n := q) (os := #[]) (Lib.compact l ++ List.replicate (l.length - (Lib.compact l).length) 0).toArray
    rw [Sort.grow_empty] at this
    exact this

theorem search_calls (w : World) (A : Option Addr) (c : Nat) (l : List Int) (x : Int) (h : RdI w A l) (hl : l.length ≤ 1000000) (hs : l.Pairwise (· ≤ ·)) :
    Calls Try.prog 71 #[.slice A l.length c, .int .i64 x] w fun e w' => e = .returned (.tuple #[.int .i64 ((l.countP (· < x) : Nat) : Int), .bool (l.contains x)]) ∧ ∃ q, w' = w.drewN q := by
  rcases h.cases with rfl | ⟨b, rfl, hc⟩
  · refine (Try.slices_BinarySearch_int_empty A c x w).mono ?_
    rintro e w' ⟨rfl, rfl⟩
    exact ⟨rfl, 0, rfl⟩
  · refine (Try.slices_BinarySearch_int b 0 l.length c l x w (Nat.le_refl _) (by omega) hc (by rw [List.take_length]; exact hs)).mono ?_
    rintro e w' ⟨rfl, q, rfl⟩
    rw [List.take_length]
    exact ⟨rfl, q, rfl⟩

end Go.Proofs.Ytgihncjllelonaa.Sl

/- The references' small functions: SameInts, SameLists, in, Comp. -/
namespace Go.Proofs.Ytgihncjllelonaa.Lw
open Go Go.RowKit Go.Proofs.Ytgihncjllelonaa.Mem Go.Proofs.Ytgihncjllelonaa.Sl Go.Proofs.YtgihncjllelonaaW.PrintWords Go.Proofs.YtgihncjllelonaaW.PrintLast
attribute [local go_sem ↓] Go.wp_at_zero Go.wp_at_succ
set_option linter.unusedSimpArgs false
set_option linter.unusedVariables false

def RdL (w : World) (A : Option Addr) (ls : List (List Int)) : Prop := ∀ (i : Nat) (r : List Int), ls[i]? = some r → ∃ b B c, A = some ⟨b, 0, none⟩ ∧ w.cell? ⟨b, i, none⟩ = some (.slice B r.length c) ∧ RdI w B r
theorem RdL.below {w w' : World} {A : Option Addr} {ls : List (List Int)} (h : RdL w A ls) (hb : Below w.heap.size w w') : RdL w' A ls := fun i r hr => by
  obtain ⟨b, B, c, h1, h2, h3⟩ := h i r hr
  exact ⟨b, B, c, h1, (hb.cell (p := ⟨b, i, none⟩) (World.block_lt_of_cell? w _ h2)).trans h2, h3.below hb⟩
theorem RdI.drewN {w : World} {A : Option Addr} {l : List Int} (h : RdI w A l) (k : Nat) : RdI (w.drewN k) A l := h
theorem RdL.drewN {w : World} {A : Option Addr} {ls : List (List Int)} (h : RdL w A ls) (k : Nat) : RdL (w.drewN k) A ls := h

end Go.Proofs.Ytgihncjllelonaa.Lw

/- Appending what can be read to a row of one's own; Cut. -/
namespace Go.Proofs.Ytgihncjllelonaa.Lw
open Go Go.RowKit Go.Proofs.Ytgihncjllelonaa.Mem Go.Proofs.Ytgihncjllelonaa.Sl Go.Proofs.YtgihncjllelonaaW.PrintWords Go.Proofs.YtgihncjllelonaaW.PrintLast
attribute [local go_sem ↓] Go.wp_at_zero Go.wp_at_succ
set_option linter.unusedSimpArgs false
set_option linter.unusedVariables false

def RdV (w : World) (v : Value) (n size : Nat) (news : List Value) : Prop :=
  news.length = n * size ∧ (∀ u ∈ news, u.oneCell' = true) ∧ ((v = .slice none 0 0 ∧ n = 0) ∨ ∃ ad c, v = .slice (some ad) n c ∧ ∀ j u, news[j]? = some u → w.cell? (ad.add j) = some u)

theorem RdV.below {w w' : World} {v : Value} {n size : Nat} {news : List Value} (h : RdV w v n size news) (hb : Below w.heap.size w w') : RdV w' v n size news := by
  refine ⟨h.1, h.2.1, h.2.2.imp id ?_⟩
  rintro ⟨ad, c, e, hc⟩
  exact ⟨ad, c, e, fun j u hu => (hb.cell (World.block_lt_of_cell? w _ (hc j u hu))).trans (hc j u hu)⟩

theorem run_append_any {P : Program} (w : World) (base : Nat) (t ty e : TypeId) (i : TypeInfo) (z : Value) (size bytes : Nat) (ht : P.underlying t = some (.slice e)) (hi : P.info? e = some i) (hz : i.zero = some z)
    (hsize : i.size = size) (hby : i.bytes = bytes) (hzs : z.cells.size = size) (hsz : 0 < size) (v : Value) (n : Nat) (xs : List Value) (hown : w.ownsRow base e size v n xs)
    (x : Value) (m : Nat) (news : List Value) (hx : RdV w x m size news) (h63 : n + m ≤ maxLen) (hbytes : (n + m) * bytes ≤ 140737488355328) (hbase : base ≤ w.heap.size) :
    ∃ v' w', (Builtin.append_ #[t, t] ty #[v, x]).run P w = .ok v' w' ∧ w'.ownsRow base e size v' (n + m) (xs ++ news) ∧ w.grownBy w' v.ownBlock ∧ (v'.ownBlock = v.ownBlock ∨ v'.ownBlock = some w.heap.size) := by
  obtain ⟨hl, h1, ⟨rfl, rfl⟩ | ⟨ad, c, rfl, hc⟩⟩ := hx
  · have hnil : news = [] := List.length_eq_zero_iff.1 (by omega)
    subst hnil
    refine ⟨v, w, run_append_owned_none (P := P) w base t ty e i size ht hi v n xs hown, ?_, ⟨rfl, rfl, rfl, Nat.le_refl _, fun _ _ _ => rfl⟩, Or.inl rfl⟩
    simpa using hown
  · obtain ⟨v', w', g1, g2, g3, _, g5⟩ := run_append_own_at (P := P) (w := w) base t ty e i z size bytes ht hi hz hsize hby hzs hsz v n xs hown ad m c news hl hc h1 h63 hbytes hbase
    exact ⟨v', w', g1, g2, g3, g5⟩

theorem step_append_any {P : Program} {w : World} {ops : Array Oper} {o : Oper} {a : Act} {K : Act → World → Prop} {Q : Exit → Act → World → Prop} {E : Prop} (hgd : o.guard = none) (s x : Operand) (t : TypeId)
    (ho : o.op = .call { callee := .builtin .append, args := #[s, x], argTypes := #[t, t] })
    (base : Nat) (e : TypeId) (i : TypeInfo) (z : Value) (size bytes : Nat) (ht : P.underlying t = some (.slice e)) (hi : P.info? e = some i) (hz : i.zero = some z)
    (hsize : i.size = size) (hby : i.bytes = bytes) (hzs : z.cells.size = size) (hsz : 0 < size) (v : Value) (n : Nat) (xs : List Value) (hs : a.eval s = v) (hown : w.ownsRow base e size v n xs)
    (xv : Value) (hxv : a.eval x = xv) (m : Nat) (news : List Value) (hx : RdV w xv m size news) (h63 : n + m ≤ maxLen) (hbytes : (n + m) * bytes ≤ 140737488355328) (hbase : base ≤ w.heap.size)
    (h : ∀ v' w', w'.ownsRow base e size v' (n + m) (xs ++ news) → w.grownBy w' v.ownBlock → (v'.ownBlock = v.ownBlock ∨ v'.ownBlock = some w.heap.size) → K (a.put o.dst v') w') :
    if Region.wanted o (yielded ops a.tmps) = true then Oper.wp P o a w K Q else E := by
  have hw : Region.wanted o (yielded ops a.tmps) = true := by simp [Region.wanted, hgd]
  rw [if_pos hw]
  obtain ⟨v', w', hr, h2, h3, h4⟩ := run_append_any (P := P) w base t o.type e i z size bytes ht hi hz hsize hby hzs hsz v n xs hown xv m news hx h63 hbytes hbase
  unfold Oper.wp execOp
  simp only [ho, resolve, invoke, builtin, Sem.run_bind, Sem.run_pure, Result.andThen_ok, List.map_toArray, List.map_cons, List.map_nil, hs, hxv, hr]
  exact h v' w' h2 h3 h4

theorem wpList_append_any {P : Program} {w : World} {ops : Array Oper} {rest : List Oper} {o : Oper} {a : Act} {Q : Exit → Act → World → Prop} (hgd : o.guard = none) (s x : Operand) (t : TypeId)
    (ho : o.op = .call { callee := .builtin .append, args := #[s, x], argTypes := #[t, t] })
    (base : Nat) (e : TypeId) (i : TypeInfo) (z : Value) (size bytes : Nat) (ht : P.underlying t = some (.slice e)) (hi : P.info? e = some i) (hz : i.zero = some z)
    (hsize : i.size = size) (hby : i.bytes = bytes) (hzs : z.cells.size = size) (hsz : 0 < size) (v : Value) (n : Nat) (xs : List Value) (hs : a.eval s = v) (hown : w.ownsRow base e size v n xs)
    (xv : Value) (hxv : a.eval x = xv) (m : Nat) (news : List Value) (hx : RdV w xv m size news) (h63 : n + m ≤ maxLen) (hbytes : (n + m) * bytes ≤ 140737488355328) (hbase : base ≤ w.heap.size)
    (h : ∀ v' w', w'.ownsRow base e size v' (n + m) (xs ++ news) → w.grownBy w' v.ownBlock → (v'.ownBlock = v.ownBlock ∨ v'.ownBlock = some w.heap.size) → wpList P ops Q rest (a.put o.dst v') w') :
    wpList P ops Q (o :: rest) a w := by
  refine wpList_plain hgd fun _ hK => ?_
  obtain ⟨v', w', hr, h2, h3, h4⟩ := run_append_any (P := P) w base t o.type e i z size bytes ht hi hz hsize hby hzs hsz v n xs hown xv m news hx h63 hbytes hbase
  unfold Oper.wp execOp
  simp only [ho, resolve, invoke, builtin, Sem.run_bind, Sem.run_pure, Result.andThen_ok, List.map_toArray, List.map_cons, List.map_nil, hs, hxv, hr]
  exact hK _ _ (h v' w' h2 h3 h4)

end Go.Proofs.Ytgihncjllelonaa.Lw

/- Cut. -/
namespace Go.Proofs.Ytgihncjllelonaa.Lw
open Go Go.RowKit Go.Proofs.Ytgihncjllelonaa.Mem Go.Proofs.Ytgihncjllelonaa.Sl Go.Proofs.YtgihncjllelonaaW.PrintWords Go.Proofs.YtgihncjllelonaaW.PrintLast
attribute [local go_sem ↓] Go.wp_at_zero Go.wp_at_succ
set_option linter.unusedSimpArgs false
set_option linter.unusedVariables false

def ArgV (w : World) (v : Value) (n size : Nat) (news : List Value) : Prop :=
  news.length = n * size ∧ (∀ u ∈ news, u.oneCell' = true) ∧ ((v = .slice none 0 0 ∧ n = 0) ∨ ∃ ad c, v = .slice (some ad) n c ∧ n ≤ c ∧ ∀ j u, news[j]? = some u → w.cell? (ad.add j) = some u)
theorem ArgV.rd {w : World} {v : Value} {n size : Nat} {news : List Value} (h : ArgV w v n size news) : RdV w v n size news :=
  ⟨h.1, h.2.1, h.2.2.imp id (fun ⟨ad, c, e, _, hc⟩ => ⟨ad, c, e, hc⟩)⟩

theorem ArgV.take {w : World} {A : Option Addr} {c n size m : Nat} {news : List Value} (h : ArgV w (.slice A n c) n size news) (hm : m ≤ n) : RdV w (.slice A m c) m size (news.take (m * size)) ∧ n ≤ c := by
  obtain ⟨hl, h1, h2⟩ := h
  have hlt : (news.take (m * size)).length = m * size := by
    rw [List.length_take, hl]
    exact Nat.min_eq_left (Nat.mul_le_mul_right _ hm)
  have h1' : ∀ u ∈ news.take (m * size), u.oneCell' = true := fun u hu => h1 u (List.mem_of_mem_take hu)
  rcases h2 with ⟨he, rfl⟩ | ⟨ad, c', he, hnc, hc⟩
  · cases he
    obtain rfl : m = 0 := by omega
    exact ⟨⟨hlt, h1', .inl ⟨rfl, rfl⟩⟩, Nat.le_refl _⟩
  · cases he
    refine ⟨⟨hlt, h1', .inr ⟨ad, c, rfl, fun j u hu => ?_⟩⟩, hnc⟩
    rw [List.getElem?_take] at hu
    split at hu
    · exact hc j u hu
    · cases hu

theorem RdV.lit (w : World) (a : Array Value) (T : TypeId) (n size c : Nat) (hl : a.toList.length = n * size) (h1 : ∀ u ∈ a.toList, u.oneCell' = true) : RdV (w.alloc (.cells a T)) (.slice (some ⟨w.heap.size, 0, none⟩) n c) n size a.toList := by
  refine ⟨hl, h1, .inr ⟨_, _, rfl, fun j u hu => ?_⟩⟩
  rw [add_plain]
  simpa using (At.new w a T).cell j hu

theorem own_made {w : World} {base k size : Nat} {T : TypeId} (hk : w.heap.size = k) (hb : base ≤ w.heap.size) : (w.alloc (.cells #[] T)).ownsRow base T size (.slice (some ⟨k, 0, none⟩) 0 0) 0 [] := by
  subst hk
  exact World.ownsRow_lit w #[] 0 hb (by decide) (by simp)

theorem info_int : (Try.prog.info? 3).map (fun i => (i.zero, i.size, i.bytes)) = some (some (.int .i64 0), 1, 8) := by kernel_rfl
structure One (w0 : World) (e : TypeId) (size : Nat) (v : Value) (n : Nat) (xs : List Value) (W : World) : Prop where
  r : W.ownsRow w0.heap.size e size v n xs
  b : Below w0.heap.size w0 W
structure Two (w0 : World) (e1 : TypeId) (s1 : Nat) (v1 : Value) (n1 : Nat) (xs1 : List Value) (e2 : TypeId) (s2 : Nat) (v2 : Value) (n2 : Nat) (xs2 : List Value) (W : World) : Prop where
  r1 : W.ownsRow w0.heap.size e1 s1 v1 n1 xs1
  r2 : W.ownsRow w0.heap.size e2 s2 v2 n2 xs2
  ne : ∀ k, v1.ownBlock = some k → v2.ownBlock ≠ some k
  b : Below w0.heap.size w0 W
section
variable {w0 w w' : World} {e e1 e2 : TypeId} {s s1 s2 : Nat} {v v1 v2 : Value} {n n1 n2 : Nat} {xs xs1 xs2 : List Value}
theorem own_mono {B B' : Nat} (h : w.ownsRow B e s v n xs) (hb : B' ≤ B) : w.ownsRow B' e s v n xs :=
  ⟨h.1, h.2.imp id fun ⟨g, cap, cur, a1, a2, a3⟩ => ⟨g, cap, cur, a1, Nat.le_trans hb a2, a3⟩⟩
theorem own_below {B : Nat} (h : w.ownsRow B e s v n xs) (hb : Below w.heap.size w w') : w'.ownsRow B e s v n xs :=
  h.kept (row := none) ⟨hb.os, hb.tape, hb.output, hb.size, fun k hk _ => hb.block k hk⟩ (by cases v.ownBlock <;> simp)
theorem One.make (h0 : Below w0.heap.size w0 w) (h : w'.ownsRow w.heap.size e s v 0 []) (hb : Below w.heap.size w w') : One w0 e s v 0 [] w' :=
  ⟨own_mono h h0.size, h0.trans (hb.mono h0.size)⟩
theorem One.below (h : One w0 e s v n xs w) (hb : Below w.heap.size w w') : One w0 e s v n xs w' := ⟨own_below h.r hb, h.b.trans (hb.mono h.b.size)⟩
theorem Two.below (h : Two w0 e1 s1 v1 n1 xs1 e2 s2 v2 n2 xs2 w) (hb : Below w.heap.size w w') : Two w0 e1 s1 v1 n1 xs1 e2 s2 v2 n2 xs2 w' := ⟨own_below h.r1 hb, own_below h.r2 hb, h.ne, h.b.trans (hb.mono h.b.size)⟩
theorem Two.swap (h : Two w0 e1 s1 v1 n1 xs1 e2 s2 v2 n2 xs2 w) : Two w0 e2 s2 v2 n2 xs2 e1 s1 v1 n1 xs1 w := ⟨h.r2, h.r1, fun k h2 h1 => h.ne k h1 h2, h.b⟩
theorem One.and (h : One w0 e1 s1 v1 n1 xs1 w) (h2 : w'.ownsRow w.heap.size e2 s2 v2 0 []) (hb : Below w.heap.size w w') (hv : v2.ownBlock = some w.heap.size) : Two w0 e1 s1 v1 n1 xs1 e2 s2 v2 0 [] w' :=
  ⟨own_below h.r hb, own_mono h2 h.b.size, fun k hk hk2 => by
    have := (h.r.lt k hk).2
    rw [hv] at hk2
    cases hk2
    omega, h.b.trans (hb.mono h.b.size)⟩
theorem One.grow (h : One w0 e s v n xs w) {v' : Value} {n' : Nat} {xs' : List Value} (ho : w'.ownsRow w0.heap.size e s v' n' xs') (hg : w.grownBy w' v.ownBlock) : One w0 e s v' n' xs' w' :=
  ⟨ho, h.b.grown hg h.b.size fun k hk => (h.r.lt k hk).1⟩
theorem Two.grow1 (h : Two w0 e1 s1 v1 n1 xs1 e2 s2 v2 n2 xs2 w) {v' : Value} {n' : Nat} {xs' : List Value} (ho : w'.ownsRow w0.heap.size e1 s1 v' n' xs') (hg : w.grownBy w' v1.ownBlock) (hn : v'.ownBlock = v1.ownBlock ∨ v'.ownBlock = some w.heap.size) :
    Two w0 e1 s1 v' n' xs' e2 s2 v2 n2 xs2 w' := by
  refine ⟨ho, h.r2.kept hg ?_, ?_, h.b.grown hg h.b.size fun k hk => (h.r1.lt k hk).1⟩
  · cases hv : v2.ownBlock with
    | none => exact .inl rfl
    | some k => exact .inr fun hh => h.ne k hh.symm hv
  · intro k hk hk2
    rcases hn with hn | hn
    · exact h.ne k (hn ▸ hk) hk2
    · rw [hn] at hk
      cases hk
      have := (h.r2.lt _ hk2).2
      omega
theorem Two.grow2 (h : Two w0 e1 s1 v1 n1 xs1 e2 s2 v2 n2 xs2 w) {v' : Value} {n' : Nat} {xs' : List Value} (ho : w'.ownsRow w0.heap.size e2 s2 v' n' xs') (hg : w.grownBy w' v2.ownBlock) (hn : v'.ownBlock = v2.ownBlock ∨ v'.ownBlock = some w.heap.size) :
    Two w0 e1 s1 v1 n1 xs1 e2 s2 v' n' xs' w' := (h.swap.grow1 ho hg hn).swap
end


end Go.Proofs.Ytgihncjllelonaa.Lw
