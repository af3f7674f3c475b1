/-
  DERIVED: THE SHELF's CONTRACTS AT THIS DUMP, IN PLAIN WORDS (tools/lay-plain.mjs out of 'TryzSorts.lean', which tools/lay-shelf.mjs wrote): THE SAME DECLARATIONS UNDER THE SAME NAMES: 'import', 'namespace', 'open', 'def', 'theorem' AND NOTHING ELSE: no command of the shelf's: FOR A HAND-IN. Each laying: the table of numbers ('.._ren') and one theorem, a field a fact of the dump's own or the kernel's comparison; each contract: ONE APPLICATION.
-/
import Derived.Shelf.SlLaysF
import Derived.Ground.SlsfProg
import Derived.Test.YtgihncjllelonaaGreatProg
import Derived.Test.YtgihncjllelonaaGreatHt23
import Derived.Shelf.SlSortCmp.Whole1
import Derived.Test.YtgihncjllelonaaGreatHt22
import Derived.Test.YtgihncjllelonaaGreatHt17
namespace Go.Proofs
set_option linter.unusedSimpArgs false
set_option linter.unusedVariables false
open Go.Shelf
def Tryz.sortLists_ren : Go.Shelf.Ren := ⟨fun | 6 => 66 | 15 => 102 | 14 => 111 | 28 => 135 | 29 => 136 | 20 => 143 | 21 => 144 | 22 => 145 | 23 => 146 | 24 => 147 | 25 => 148 | 26 => 149 | 27 => 150 | 46 => 166 | 47 => 161 | 48 => 162 | 49 => 167 | 50 => 168 | 57 => 175 | n => n, fun | 22 => 40 | 24 => 22 | 25 => 140 | 3 => 3 | 39 => 178 | 0 => 0 | 53 => 72 | 55 => 230 | 4 => 4 | 46 => 224 | 45 => 223 | 50 => 105 | 5 => 5 | 9 => 9 | 66 => 253 | 70 => 203 | 76 => 268 | 77 => 218 | n => n, fun | n => n⟩
theorem Tryz.sortLists : Go.Proofs.SlLaysF.n6 Tryz.prog Tryz.sortLists_ren := {
  mixed := by kernel_rfl
  f6 := ⟨Tryz.f66.name, by decide, Tryz.func66.trans (congrArg some (by kernel_rfl))⟩
  f14 := ⟨Tryz.f111.name, by decide, Tryz.func111.trans (congrArg some (by kernel_rfl))⟩
  f15 := Tryz.func102.trans (congrArg some (by kernel_rfl))
  f20 := ⟨Tryz.f143.name, by decide, Tryz.func143.trans (congrArg some (by kernel_rfl))⟩
  f21 := ⟨Tryz.f144.name, by decide, Tryz.func144.trans (congrArg some (by kernel_rfl))⟩
  f22 := ⟨Tryz.f145.name, by decide, Tryz.func145.trans (congrArg some (by kernel_rfl))⟩
  f23 := ⟨Tryz.f146.name, by decide, Tryz.func146.trans (congrArg some (by kernel_rfl))⟩
  f24 := ⟨Tryz.f147.name, by decide, Tryz.func147.trans (congrArg some (by kernel_rfl))⟩
  f25 := ⟨Tryz.f148.name, by decide, Tryz.func148.trans (congrArg some (by kernel_rfl))⟩
  f26 := ⟨Tryz.f149.name, by decide, Tryz.func149.trans (congrArg some (by kernel_rfl))⟩
  f27 := ⟨Tryz.f150.name, by decide, Tryz.func150.trans (congrArg some (by kernel_rfl))⟩
  f28 := Tryz.func135.trans (congrArg some (by kernel_rfl))
  f29 := Tryz.func136.trans (congrArg some (by kernel_rfl))
  f46 := ⟨Tryz.f166.name, by decide, Tryz.func166.trans (congrArg some (by kernel_rfl))⟩
  f47 := Tryz.func161.trans (congrArg some (by kernel_rfl))
  f48 := Tryz.func162.trans (congrArg some (by kernel_rfl))
  f49 := ⟨Tryz.f167.name, by decide, Tryz.func167.trans (congrArg some (by kernel_rfl))⟩
  f50 := ⟨Tryz.f168.name, by decide, Tryz.func168.trans (congrArg some (by kernel_rfl))⟩
  f57 := ⟨Tryz.f175.name, by decide, Tryz.func175.trans (congrArg some (by kernel_rfl))⟩
  t0 := Tryz.underlying0
  a0 := Tryz.isAgg0
  z0 := Tryz.sizeOf0
  v0 := Tryz.zeroValue0
  t3 := Tryz.underlying3
  a3 := Tryz.isAgg3
  z3 := Tryz.sizeOf3
  v3 := Tryz.zeroValue3
  t4 := Tryz.underlying4
  a4 := Tryz.isAgg4
  z4 := Tryz.sizeOf4
  v4 := Tryz.zeroValue4
  t5 := Tryz.underlying5
  a5 := Tryz.isAgg5
  z5 := Tryz.sizeOf5
  v5 := Tryz.zeroValue5
  t9 := Tryz.underlying9
  a9 := Tryz.isAgg9
  z9 := Tryz.sizeOf9
  v9 := Tryz.zeroValue9
  t22 := Tryz.underlying40
  a22 := Tryz.isAgg40
  z22 := Tryz.sizeOf40
  v22 := Tryz.zeroValue40
  a24 := Tryz.isAgg22
  z24 := Tryz.sizeOf22
  t25 := Tryz.underlying140
  a25 := Tryz.isAgg140
  z25 := Tryz.sizeOf140
  v25 := Tryz.zeroValue140
  t39 := Tryz.underlying178
  a39 := Tryz.isAgg178
  z39 := Tryz.sizeOf178
  v39 := Tryz.zeroValue178
  t45 := Tryz.underlying223
  a45 := Tryz.isAgg223
  z45 := Tryz.sizeOf223
  v45 := Tryz.zeroValue223
  t46 := Tryz.underlying224
  a46 := Tryz.isAgg224
  z46 := Tryz.sizeOf224
  v46 := Tryz.zeroValue224
  t50 := Tryz.underlying105
  a50 := Tryz.isAgg105
  z50 := Tryz.sizeOf105
  v50 := Tryz.zeroValue105
  t53 := Tryz.underlying72
  a53 := Tryz.isAgg72
  z53 := Tryz.sizeOf72
  v53 := Tryz.zeroValue72
  t55 := Tryz.underlying230
  a55 := Tryz.isAgg230
  z55 := Tryz.sizeOf230
  v55 := Tryz.zeroValue230
  t66 := Tryz.underlying253
  a66 := Tryz.isAgg253
  z66 := Tryz.sizeOf253
  v66 := Tryz.zeroValue253
  t70 := Tryz.underlying203
  a70 := Tryz.isAgg203
  z70 := Tryz.sizeOf203
  v70 := Tryz.zeroValue203
  t76 := Tryz.underlying268
  a76 := Tryz.isAgg268
  z76 := Tryz.sizeOf268
  v76 := Tryz.zeroValue268
  t77 := Tryz.underlying218
  a77 := Tryz.isAgg218
  z77 := Tryz.sizeOf218
  v77 := Tryz.zeroValue218 }
end Go.Proofs

/- slices.SortFunc of a list of own lists by slices.Compare. -/
namespace Go.Proofs.YtgihncjllelonaaGreat.Ce
open Go Go.Shelf Go.RowKit Go.Lib Go.Sort Go.Proofs.YtgihncjllelonaaGreat.Mem Go.Proofs.YtgihncjllelonaaGreat.Sl Go.Proofs.YtgihncjllelonaaGreat.Lw
set_option linter.unusedSimpArgs false
set_option linter.unusedVariables false

def RowT (W : World) (B : Nat) : Type := {p : Value × List Int // W.ownsRow B 3 1 p.1 p.2.length (ints p.2) ∧ p.2.length ≤ 17592186044416}
instance (W : World) (B : Nat) : Inhabited (RowT W B) := ⟨⟨(.slice none 0 0, []), World.ownsRow_nil _ _ _ _, by simp⟩⟩
def encR {W : World} {B : Nat} (x : RowT W B) : Value := x.1.1
def rowL {W : World} {B : Nat} (x : RowT W B) : List Int := x.1.2
theorem encR_form {W : World} {B : Nat} (x : RowT W B) : ∃ A c, encR x = .slice A (rowL x).length c ∧ (∀ b, A = some ⟨b, 0, none⟩ → (encR x).ownBlock = some b) ∧ RdI W A (rowL x) := by
  obtain ⟨⟨v, l⟩, h, hl⟩ := x
  have h : W.ownsRow B 3 1 v l.length (ints l) := h
  obtain ⟨A, c, rfl⟩ := own_slice h
  exact ⟨A, c, rfl, fun b e => by cases e; rfl, (RdI.of_own h).1⟩
theorem rd_kpt {w W : World} {p : Nat → Prop} {A : Option Addr} {l : List Int} (h : RdI w A l) (hk : Kpt p w W) (hp : ∀ b, A = some ⟨b, 0, none⟩ → ¬ p b) : RdI W A l := fun j x hx => by
  obtain ⟨b, h1, h2⟩ := h j x hx
  exact ⟨b, h1, (World.cell?_of_block (w := w) (hk.block b (World.block_lt_of_cell? _ _ h2) (hp b h1))).trans h2⟩
theorem encR_rd {W W' : World} {B g n c : Nat} {xs : List Value} (h0 : W.ownsRow B 22 1 (.slice (some ⟨g, 0, none⟩) n c) n xs) (hk : Kpt (fun k => k = g) W W') (x : RowT W B) : ∃ A c, encR x = .slice A (rowL x).length c ∧ RdI W' A (rowL x) := by
  obtain ⟨A, c, e, hA, hr⟩ := encR_form x
  exact ⟨A, c, e, rd_kpt hr hk fun b eb e' => own_apart h0 x.2.1 (by decide) (k := g) rfl (by
    have e2 : b = g := e'
    rw [← e2]
    exact hA b eb)⟩
section
variable {w : World} {base g n c : Nat} {rows : List (RowT w base)}
theorem sortWorld_kpt (m : Nat) (dk : Array (RowT w base)) (os : Array Obj) : Kpt (fun k => k = g) w (sortWorld encR w g 0 m dk os) := by
  unfold sortWorld grow
  refine ⟨rfl, rfl, rfl, by simp [putRow, mapBlock, Sort.ahead], fun k hk hne => ?_⟩
  rw [Array.getElem?_append_left (by simpa [putRow, mapBlock, Sort.ahead] using hk)]
  have hne : g ≠ k := fun e => hne e.symm
  simp [putRow, mapBlock, Sort.ahead, Array.getElem?_modify, hne]
theorem holds_rows (h : w.ownsRow base 22 1 (.slice (some ⟨g, 0, none⟩) n c) n (rows.map encR)) : Holds encR w g 0 rows.toArray := fun j hj => by
  have hl := h.1
  rw [List.length_map] at hl
  have hj2 : j < rows.length := by simpa using hj
  refine ⟨?_, h.frozenAt _⟩
  rw [Nat.zero_add, h.cellAt j (by omega), List.getElem?_map]
  simp [getElem!_def, hj2]
theorem own_sortedR {q : Nat} {os : Array Obj} {m : List (RowT w base)} (h : w.ownsRow base 22 1 (.slice (some ⟨g, 0, none⟩) n c) n (rows.map encR)) (hm : m.length = rows.length) :
    (sortWorld encR w g 0 q m.toArray os).ownsRow base 22 1 (.slice (some ⟨g, 0, none⟩) n c) n (m.map encR) := by
  have hl := h.1
  rw [List.length_map] at hl
  rcases h.2 with ⟨e0, _⟩ | ⟨g', cap', cur, e0, hb, hg, hn, hmx, hs, ht⟩
  · cases e0
  · cases e0
    have hlt := lt_of_block hg
    refine ⟨by rw [List.length_map]; omega, .inr ⟨g, c, putCells encR 0 m.toArray cur, rfl, hb, ?_, hn, hmx, by simpa [putCells] using hs, ?_⟩⟩
    · unfold sortWorld putRow grow
      rw [Array.getElem?_append_left (by simpa [putRow, mapBlock, Sort.ahead] using hlt)]
      simp [putRow, mapBlock, Sort.ahead, Array.getElem?_modify, hg, onCells]
    · apply List.ext_getElem?
      intro j
      rw [List.getElem?_take, Array.getElem?_toList]
      rcases Nat.lt_or_ge j n with hj | hj
      · have hjc : j < cur.size := by omega
        have hjm : j < m.length := by omega
        rw [if_pos (by omega)]
        simp only [putCells, Array.getElem?_mapIdx, Array.getElem?_eq_getElem hjc, Option.map_some]
        rw [if_pos (by simp; omega), List.getElem?_map, List.getElem?_eq_getElem hjm]
        simp [getElem!_def, hjm]
      · rw [if_neg (by omega), List.getElem?_eq_none (by rw [List.length_map]; omega)]
end
theorem sortRows_calls (w : World) (base g n c : Nat) (rows : List (RowT w base)) (h : w.ownsRow base 22 1 (.slice (some ⟨g, 0, none⟩) n c) n (rows.map encR)) (hn : n ≤ 100000) :
    Calls Tryz.prog 66 #[.slice (some ⟨g, 0, none⟩) n c, .func (.func 67) #[] #[]] w fun e w' => e = .returned (.tuple #[]) ∧ ∃ m : List (RowT w base), m.Perm rows ∧ m.Pairwise (fun x y => cmpL (rowL x) (rowL y) ≤ 0) ∧ w'.ownsRow base 22 1 (.slice (some ⟨g, 0, none⟩) n c) n (m.map encR) ∧ Kpt (fun k => k = g) w w' := by
  have hl : rows.length = n := by have := h.1; rw [List.length_map] at this; omega
  have eg : ∀ args w, (callFunc 67 args).run Tryz.prog w = .ok (.enter 67 args) w := enters_of Tryz.func67 (by kernel_rfl) rfl
  have hlt : g < w.heap.size := (h.lt g rfl).2
  have h1 : OneCell (encR : RowT w base → Value) := fun x => by
    obtain ⟨A, c, e, _⟩ := encR_form x
    rw [e]
    rfl
  have hcmp : CmpLays1 Tryz.prog 67 #[] (encR : RowT w base → Value) (fun x y => cmpL (rowL x) (rowL y)) g 0 rows.toArray.size w := fun m os dk hs x y => by
    have hk := sortWorld_kpt (g := g) m dk os
    obtain ⟨A, cx, ex, hx⟩ := encR_rd h hk x
    obtain ⟨B, cy, ey, hy⟩ := encR_rd h hk y
    rw [ex, ey]
    refine (compare_calls _ A B cx cy (rowL x) (rowL y) hx hy (by have := x.2.2; show x.1.2.length ≤ _; omega)).mono ?_
    rintro e w' ⟨rfl, rfl⟩
    exact ⟨rfl, 0, #[], by rw [grow_empty]; rfl⟩
  have hcon := Any.slices_SortFunc Tryz.sortLists encR h1 (fun x y => cmpL (rowL x) (rowL y)) (swoL rowL) 67 #[] g 0 c rows.toArray w eg hcmp (holds_rows h) hlt (by simp; omega)
  change Calls Tryz.prog 66 _ _ _ at hcon
  have hsz : rows.toArray.size = n := by simp [hl]
  rw [hsz] at hcon
  refine hcon.mono ?_
  rintro e w' ⟨rfl, d', q, os, hp, hs, rfl⟩
  have hp1 := hp.1
  have hp3 := hp.2.2
  have e1 : d'.extract 0 n = d' := by rw [show n = d'.size by omega]; simp
  have e2 : rows.toArray.extract 0 n = rows.toArray := by rw [show n = rows.toArray.size by omega]; simp
  rw [e1, e2] at hp3
  have hperm : d'.toList.Perm rows := by simpa using hp3
  refine ⟨rfl, d'.toList, hperm, ?_, ?_, ?_⟩
  · rw [List.pairwise_iff_getElem]
    intro i j hi hj hij
    have hj2 : j < d'.size := by simpa using hj
    have hi2 : i < d'.size := by simpa using hi
    have := hs i j (Nat.zero_le _) hij (by omega)
    simp only [getElem!_def, Array.getElem?_eq_getElem hj2, Array.getElem?_eq_getElem hi2] at this
    have this : ¬ cmpL (rowL d'[j]) (rowL d'[i]) < 0 := of_decide_eq_false this
    have h3 := cmpL_swap (rowL d'[i]) (rowL d'[j])
    simp only [Array.getElem_toList]
    omega
  · have := own_sortedR (q := q) (os := os) (m := d'.toList) h hperm.length_eq
    simpa using this
  · exact sortWorld_kpt q d' os
end Go.Proofs.YtgihncjllelonaaGreat.Ce

/- cert: back. -/
namespace Go.Proofs.YtgihncjllelonaaGreat.Ce
open Go Go.RowKit Go.MapKept Go.Proofs.YtgihncjllelonaaGreat.Mem Go.Proofs.YtgihncjllelonaaGreat.Sl Go.Proofs.YtgihncjllelonaaGreat.Lw Go.Proofs.YtgihncjllelonaaGreat.Wt Go.Proofs.YtgihncjllelonaaGreat.Tb Go.Proofs.YtgihncjllelonaaGreatW.PrintWords Go.Proofs.YtgihncjllelonaaGreatW.PrintLast
attribute [local go_sem ↓] Go.wp_at_zero Go.wp_at_succ
set_option linter.unusedSimpArgs false
set_option linter.unusedVariables false

def seenF (S : List Int) : Int → Option Value := fun x => if x ∈ S then some (.int .i64 1) else none
theorem seenF_add (S : List Int) (x : Int) : updV (seenF S) x (some (.int .i64 1)) = seenF (S ++ [x]) := by
  funext y
  unfold updV seenF
  by_cases e : y = x
  · rw [if_pos e, if_pos (by simp [e])]
  · rw [if_neg e]
    by_cases e2 : y ∈ S
    · rw [if_pos e2, if_pos (by simp [e2])]
    · rw [if_neg e2, if_neg (by simp [e, e2])]
theorem seenF_yes {S : List Int} {x : Int} (h : x ∈ S) : (seenF S x).getD (.int .i64 0) = .int .i64 1 := by simp [seenF, h]
theorem seenF_no {S : List Int} {x : Int} (h : x ∉ S) : (seenF S x).getD (.int .i64 0) = .int .i64 0 := by simp [seenF, h]
theorem zero_int : ∀ w : World, (zeroValue 3).run Tryz.prog w = .ok (.int .i64 0) w := fun w => by kernel_rfl
theorem look_seen {w : World} {b : Nat} {f : Int → Option Value} (h : MQ w b f) (x : Int) : (Instr.lookup 159 (.map (some b)) (.int .i64 x) false).run Tryz.prog w = .ok ((f x).getD (.int .i64 0)) w :=
  h.lookup Tryz.underlying159 Tryz.underlying3 zero_int x
theorem fld_d1 : ∀ (w : World) (a b c d : Value), (Instr.field 78 (.agg #[a, b, c, d]) 1).run Tryz.prog w = .ok b w := fun w a b c d => by kernel_rfl
theorem fld_d3 : ∀ (w : World) (a b c d : Value), (Instr.field 78 (.agg #[a, b, c, d]) 3).run Tryz.prog w = .ok d w := fun w a b c d => by kernel_rfl
theorem fld_e1 : ∀ (w : World) (a b c d : Value), (Instr.field 74 (.agg #[a, b, c, d]) 1).run Tryz.prog w = .ok b w := fun w a b c d => by kernel_rfl
theorem run_mkI (w : World) : (Instr.makeMap 159 none).run Tryz.prog w = .ok (.map (some w.heap.size)) (w.alloc (.map #[] 0)) := rfl
theorem seen_put {w : World} {b : Nat} {S : List Int} (h : MQ w b (seenF S)) (x : Int) : ∃ o, (Instr.mapUpdate 159 (.map (some b)) (.int .i64 x) (.int .i64 1)).run Tryz.prog w = .ok () (putObj w b o) ∧ MQ (putObj w b o) b (seenF (S ++ [x])) := by
  obtain ⟨o, hr, hm⟩ := h.update (P := Tryz.prog) (T := 159) Tryz.underlying159 Tryz.underlying3 x (.int .i64 1)
  exact ⟨o, hr, seenF_add S x ▸ hm⟩

def nextU (ds : List Ds) (es : List Ed) (u : Int) : Int := (eD es (dD ds u).2.2.2).2.1
def wayS (ds : List Ds) (es : List Ed) (G : List Int) (n : Nat) : Nat → Int → List Int → Option (List Int)
  | 0, _, _ => none
  | k + 1, u, way => if u ∈ G ∨ (dD ds u).2.1 = true then some way else if n < way.length + 1 then none else wayS ds es G n k (nextU ds es u) (way ++ [u])
def backS (ds : List Ds) (es : List Ed) (n : Nat) : List Int → List Int → Bool
  | [], _ => true
  | v :: r, G => match wayS ds es G n (n + 1) v [] with
    | none => false
    | some way => backS ds es n r (G ++ way)
structure Bk (w1 W : World) (mg : Nat) (G : List Int) : Prop where
  k : Kpt (fun k => k = mg ∨ w1.heap.size ≤ k) w1 W
  m : MQ W mg (seenF G)
  l : mg < w1.heap.size
section
variable {w w1 W W' : World} {mg g md me n : Nat} {G : List Int} {ds : List Ds} {es : List Ed} {A : Option Addr} {vs : List Int}
theorem Bk.below (h : Bk w1 W mg G) (hb : Below W.heap.size W W') : Bk w1 W' mg G := ⟨h.k.below hb, h.m.below hb h.m.lt, h.l⟩
theorem Bk.at_ (h : Bk w1 W mg G) {cs : List Value} {T : TypeId} (ha : At w1 g cs T) (hn : g ≠ mg) : At W g cs T := ha.kept h.k fun hh => hh.elim hn fun hh => by have := ha.lt; omega
theorem Bk.cm (h : Bk w1 W mg G) (hc : Cm w1 md me ds es) (h1 : md ≠ mg) (h2 : me ≠ mg) : Cm W md me ds es :=
  ⟨hc.dm.move (h.k.block md hc.dm.lt fun hh => hh.elim h1 fun hh => by have := hc.dm.lt; omega), hc.em.move (h.k.block me hc.em.lt fun hh => hh.elim h2 fun hh => by have := hc.em.lt; omega), hc.db, hc.eb⟩
theorem Bk.rd (h : Bk w1 W mg G) (hr : RdI w1 A vs) (hm : ∃ f, MQ w1 mg f) : RdI W A vs := fun j x hx => by
  obtain ⟨b, e1, e2⟩ := hr j x hx
  obtain ⟨f, hf⟩ := hm
  exact ⟨b, e1, cell_kept h.k e2 fun hh => hh.elim (cell_not_map hf e2) fun hh => by have := World.block_lt_of_cell? _ _ e2; dsimp only at this hh; omega⟩
theorem Bk.grown {row : Value} {base s k : Nat} {xs : List Value} {T : TypeId} (h : Bk w1 W mg G) (hr : W.ownsRow base T s row k xs) (hb : w1.heap.size ≤ base) (hg : W.grownBy W' row.ownBlock) : Bk w1 W' mg G :=
  ⟨h.k.grown hg fun k hk _ => .inr (Nat.le_trans hb (hr.lt k hk).1), h.m.grown hg (h.m.own hr), h.l⟩
theorem Bk.put (h : Bk w1 W mg G) {o : Obj} {x : Int} (hm : MQ (putObj W mg o) mg (seenF (G ++ [x]))) : Bk w1 (putObj W mg o) mg (G ++ [x]) :=
  ⟨h.k.trans ⟨rfl, rfl, rfl, by rw [putObj_size]; exact Nat.le_refl _, fun k _ hn => putObj_far fun e => hn (.inl e)⟩, hm, h.l⟩
end
set_option maxHeartbeats 16000000 in
set_option maxRecDepth 100000 in
theorem back_calls (w : World) (s : Int) (md me cv : Nat) (ds : List Ds) (es : List Ed) (A : Option Addr) (vs : List Int) (h : Cm w md me ds es) (hv : RdI w A vs) (hl : vs.length ≤ 1000) : Calls Tryz.prog 31 #[.agg #[.int .i64 s, .map (some md), .map (some me)], .slice A vs.length cv] w fun e w' => e = .returned (.bool (backS ds es vs.length vs [s])) ∧ Below w.heap.size w w' := by
  obtain ⟨i1, hi1', hz1, hs1, hy1⟩ := info_parts Lw.info_int
  obtain ⟨n, hn⟩ : ∃ n, vs.length = n := ⟨_, rfl⟩
  rw [hn] at hl ⊢
  obtain ⟨ans, hans⟩ : ∃ a, backS ds es n vs [s] = a := ⟨_, rfl⟩
  rw [hans]
  have HH := Lib.hid (And.intro h (And.intro hv (And.intro hn hans)))
  have h1 := run_mkI
  obtain ⟨o, hr, hm⟩ := seen_put (S := []) (show MQ ((w.alloc (.cells #[.int .i64 s, .map (some md), .map (some me)] 82)).alloc (.map #[] 0)) (w.heap.size + 1) (seenF []) from by
    have := MQ.new (w.alloc (.cells #[.int .i64 s, .map (some md), .map (some me)] 82))
    have e0 : seenF [] = fun _ => none := by funext x; simp [seenF]
    rw [e0]
    simpa using this) s
  have HM := Lib.hid hm
  clear h hv hn hans hm
  go_enter Tryz.func31, Tryz.ntmps31
  go_upto_block 0 with (fail)
  clear h1 hr
  obtain ⟨w1, hw1⟩ : ∃ W, putObj ((w.alloc (.cells #[.int .i64 s, .map (some md), .map (some me)] 82)).alloc (.map #[] 0)) (w.heap.size + 1) o = W := ⟨_, rfl⟩
  have hb0 : Below w.heap.size w ((w.alloc (.cells #[.int .i64 s, .map (some md), .map (some me)] 82)).alloc (.map #[] 0)) := ((Below.refl _ _).alloc (Nat.le_refl _) _).alloc (by simp) _
  have hb1 : Below w.heap.size w w1 := hw1 ▸ ⟨hb0.os, hb0.tape, hb0.output, by rw [putObj_size]; exact hb0.size, fun k hk => (putObj_far (by omega)).trans (hb0.block k hk)⟩
  have hat : At w1 w.heap.size [.int .i64 s, .map (some md), .map (some me)] 82 := hw1 ▸ ((At.made (w := w) (a := #[.int .i64 s, .map (some md), .map (some me)]) rfl rfl).al).putObj (by omega)
  have hsz : w1.heap.size = w.heap.size + 2 := by rw [← hw1, putObj_size]; simp
  rw [hw1] at HM ⊢
  obtain ⟨g2, hg2⟩ : ∃ g, w.heap.size = g := ⟨_, rfl⟩
  obtain ⟨mg, hmg⟩ : ∃ g, g2 + 1 = g := ⟨_, rfl⟩
  rw [hg2, hmg] at HM ⊢
  rw [hg2] at hat
  have hB1 : Bk w1 w1 mg [s] := ⟨Kpt.refl _ _, HM.out, by omega⟩
  have hc1 := HH.out.1.below hb1
  have hv1 := HH.out.2.1.below hb1
  have hmd := HH.out.1.dm.lt
  have hme := HH.out.1.em.lt
  have HB1 := Lib.hid hB1
  have HC := Lib.hid (And.intro hat (And.intro hc1 (And.intro hv1 (And.intro (show g2 ≠ mg by omega) (And.intro (show md ≠ mg by omega) (And.intro (show me ≠ mg by omega) (And.intro HM.out hb1)))))))
  have HX := Lib.hid (And.intro HH.out.2.2.1 HH.out.2.2.2)
  have HG := Lib.hid (And.intro hg2 (And.intro hmg hsz))
  clear hw1 hb0 hb1 hat hsz hg2 hmg hB1 hc1 hv1 hmd hme HM HH
  go_wp2_with fail
  go_loopg [18] (n + 1) (fun kq v18 w' => ∃ j : Nat, v18 = .int .i64 (j : Int) ∧ Hid (j + kq = n + 1 ∧ j ≤ n ∧ ∃ G, Bk w1 w' mg G ∧ backS ds es n (vs.drop j) G = ans))
  case atStart => exact ⟨0, rfl, Lib.hid ⟨by omega, by omega, _, HB1.out, by rw [List.drop_zero]; exact HX.out.2⟩⟩
  case round =>
    obtain ⟨j, rfl, hI⟩ := hrel
    obtain ⟨hjk, hjn, G, hB, hS⟩ := hI.out
    clear hI HB1
    by_cases hj : j < n
    · obtain ⟨k1, rfl⟩ : ∃ k1, gk = k1 + 1 := ⟨gk - 1, by omega⟩
      obtain ⟨v, hx⟩ : ∃ x, vs[j]? = some x := ⟨_, List.getElem?_eq_getElem (by have := HX.out.1; omega)⟩
      have hdrop : vs.drop j = v :: vs.drop (j + 1) := by
        obtain ⟨e1, e2⟩ := List.getElem?_eq_some_iff.1 hx
        rw [← e2]
        exact (List.getElem_cons_drop e1).symm
      rw [hdrop, backS] at hS
      obtain ⟨gv, hgv, cx⟩ := (hB.rd HC.out.2.2.1 ⟨_, HC.out.2.2.2.2.2.2.1⟩) j v hx
      subst hgv
      have j0 : (0 : Int) ≤ (j : Int) := by omega
      have j1 : (j : Int) < (n : Int) := by omega
      have HB := Lib.hid hB
      have HS := Lib.hid hS
      have HJ := Lib.hid hjk
      clear hB hS hx hdrop hjk hjn hj
      go_upto_block 2 with (fail)
      clear cx
      go_cut [8, 9] from 23 to 52 (fun s8 s9 wx => ∃ way Aw cw nw, s8 = .slice Aw nw cw ∧ Hid (way.length = nw ∧ nw ≤ n ∧ Bk w1 wx mg G ∧ wx.ownsRow w1.heap.size 3 1 (.slice Aw nw cw) nw (ints way) ∧ wayS ds es G n (n + 1) v [] = some way))
      case first =>
        go_wp2_with fail
        go_loopg [8, 9] (n + 1) (fun kq v8 v9 w' => ∃ (way : List Int) (u : Int) (Aw : Option Addr) (cw nw : Nat), v8 = .slice Aw nw cw ∧ v9 = .int .i64 u ∧ Hid (way.length = nw ∧ nw + kq = n + 1 ∧ nw ≤ n ∧ Bk w1 w' mg G ∧ w'.ownsRow w1.heap.size 3 1 (.slice Aw nw cw) nw (ints way) ∧ wayS ds es G n kq u way = wayS ds es G n (n + 1) v []))
        case atStart => exact ⟨[], v, none, 0, 0, rfl, rfl, Lib.hid ⟨rfl, by omega, by omega, HB.out, World.ownsRow_nil _ _ _ _, rfl⟩⟩
        case round =>
          obtain ⟨way, u, Aw, cw, nw, rfl, rfl, hI⟩ := hrel
          obtain ⟨hwl, hnk, hnn, hB, ho, hW⟩ := hI.out
          clear hI HB
          obtain ⟨k2, rfl⟩ : ∃ k2, gk = k2 + 1 := ⟨gk - 1, by omega⟩
          rw [wayS] at hW
          have lg := look_seen hB.m u
          by_cases hG : u ∈ G
          · rw [seenF_yes hG] at lg
            rw [if_pos (.inl hG)] at hW
            have HZ := Lib.hid (And.intro hwl (And.intro hnn (And.intro hB (And.intro ho hW.symm))))
            clear hwl hnk hnn hB ho hW hG
            go_wp2_with fail
            go_meet
            exact ⟨_, _, _, _, rfl, HZ⟩
          · rw [seenF_no hG] at lg
            have q1 := (hB.at_ HC.out.1 HC.out.2.2.2.1).cell 1 rfl
            have hcm := hB.cm HC.out.2.1 HC.out.2.2.2.2.1 HC.out.2.2.2.2.2.1
            have ld := hcm.dlook u
            have f1 := fld_d1
            have f2 := fld_d3
            have f3 := fld_e1
            cases hf : (dD ds u).2.1 with
            | true =>
              rw [hf] at ld
              rw [if_pos (.inr hf)] at hW
              have HZ := Lib.hid (And.intro hwl (And.intro hnn (And.intro hB (And.intro ho hW.symm))))
              clear hwl hnk hnn hB ho hW hG hcm hf
              go_wp2_with fail
              go_meet
              exact ⟨_, _, _, _, rfl, HZ⟩
            | false =>
              rw [hf] at ld
              rw [if_neg (fun hh => hh.elim hG fun h2 => by rw [hf] at h2; cases h2), hwl] at hW
              have HO := Lib.hid (And.intro ho (And.intro hwl hnk))
              have HB := Lib.hid hB
              by_cases hlt : n < nw + 1
              · rw [if_pos hlt] at hW
                have hS := HS.out
                rw [← hW] at hS
                have HA := Lib.hid (show false = ans from hS)
                have hi1 : (n : Int) < (nw : Int) + 1 := by omega
                have hi2 : ((nw + 1 : Nat) : Int) > (n : Int) := by omega
                have hnw : nw ≤ 1000 := by omega
                clear hwl hnk hnn hB ho hW hG hcm hf hlt hS
                go_wp2_with ((at_builtin; refine wpList_append_any rfl (.tmp 44) (.tmp 46) 22 rfl w1.heap.size 3 i1 (.int .i64 0) 1 8 Tryz.underlying22 hi1' hz1 hs1 hy1 rfl (by omega) _ _ _ rfl (HO.out.1.alloc (.cells #[.int .i64 u] 3)) _ rfl 1 [.int .i64 u] (RdV.lit _ #[.int .i64 u] 3 1 1 1 rfl (by simp [Value.oneCell'])) (by unfold maxLen; omega) (by omega) (by have := HB.out.k.size; simp; omega) ?_; intro v7 w7 ho hg hn; have HB7 := Lib.hid (And.intro ((HB.out.below ((Below.refl _ _).alloc (Nat.le_refl _) (.cells #[.int .i64 u] 3))).grown (HO.out.1.alloc (.cells #[.int .i64 u] 3)) (Nat.le_refl _) hg) ho); obtain ⟨A7, c7, rfl⟩ := Lw.own_slice ho; clear ho hg hn; have HK7 := Lib.hid HB7.out.1.k))
                have hbk := (HC.out.2.2.2.2.2.2.2.trans (HK7.out.to_below fun i hi => ⟨by have := HG.out.2.2; have := HG.out.1; omega, fun hh => by have := HG.out.2.2; have := HG.out.1; have := HG.out.2.1; omega⟩))
                have HBE := Lib.hid hbk
                clear hbk HB7 HK7
                go_ret
                exact ⟨by rw [← HA.out]; rfl, HBE.out⟩
              · rw [if_neg hlt] at hW
                have hi1 : ¬ ((n : Int) < (nw : Int) + 1) := by omega
                have hi2 : ¬ (((nw + 1 : Nat) : Int) > (n : Int)) := by omega
                have hnw : nw + 1 ≤ 1000 := by omega
                have HW := Lib.hid hW
                clear hwl hnk hnn hB ho hW hG hcm hf
                go_wp2_with ((at_builtin; refine wpList_append_any rfl (.tmp 44) (.tmp 46) 22 rfl w1.heap.size 3 i1 (.int .i64 0) 1 8 Tryz.underlying22 hi1' hz1 hs1 hy1 rfl (by omega) _ _ _ rfl (HO.out.1.alloc (.cells #[.int .i64 u] 3)) _ rfl 1 [.int .i64 u] (RdV.lit _ #[.int .i64 u] 3 1 1 1 rfl (by simp [Value.oneCell'])) (by unfold maxLen; omega) (by omega) (by have := HB.out.k.size; simp; omega) ?_; intro v7 w7 ho hg hn; have HB7 := Lib.hid (And.intro ((HB.out.below ((Below.refl _ _).alloc (Nat.le_refl _) (.cells #[.int .i64 u] 3))).grown (HO.out.1.alloc (.cells #[.int .i64 u] 3)) (Nat.le_refl _) hg) ho); obtain ⟨A7, c7, rfl⟩ := Lw.own_slice ho; clear ho hg hn; have p1 := (HB7.out.1.at_ HC.out.1 HC.out.2.2.2.1).cell 1 rfl; have p2 := (HB7.out.1.at_ HC.out.1 HC.out.2.2.2.1).cell 2 rfl; have p3 := (HB7.out.1.cm HC.out.2.1 HC.out.2.2.2.2.1 HC.out.2.2.2.2.2.1).dlook u; have p4 := (HB7.out.1.cm HC.out.2.1 HC.out.2.2.2.2.1 HC.out.2.2.2.2.2.1).elook1 (dD ds u).2.2.2))
                go_roundg k2
                case measure => omega
                case rel =>
                  exact ⟨way ++ [u], nextU ds es u, A7, c7, nw + 1, rfl, rfl, Lib.hid ⟨by rw [List.length_append, HO.out.2.1]; rfl, by have := HO.out.2.2; omega, by omega, HB7.out.1, by rw [← ints_snoc]; exact HB7.out.2, HW.out⟩⟩
      case rest =>
        obtain ⟨way, Aw, cw, nw, rfl, hI⟩ := hcut
        rename World => w8
        have HI := Lib.hid (And.intro hI.out.1 (And.intro hI.out.2.1 hI.out.2.2.2.2))
        have HR := Lib.hid (And.intro hI.out.2.2.1 hI.out.2.2.2.1)
        clear hI HB
        go_wp2_with fail
        go_loopg [55] (nw + 1) (fun kq v55 w' => ∃ i : Nat, v55 = .int .i64 (i : Int) ∧ Hid (i + kq = nw + 1 ∧ i ≤ nw ∧ Bk w1 w' mg (G ++ way.take i) ∧ w'.ownsRow w1.heap.size 3 1 (.slice Aw nw cw) nw (ints way)))
        case atStart => exact ⟨0, rfl, Lib.hid ⟨by omega, by omega, by rw [List.take_zero, List.append_nil]; exact HR.out.1, HR.out.2⟩⟩
        case round =>
          obtain ⟨i, rfl, hI⟩ := hrel
          obtain ⟨hik, hin, hB, ho⟩ := hI.out
          clear hI HR
          by_cases hi : i < nw
          · obtain ⟨k3, rfl⟩ : ∃ k3, gk = k3 + 1 := ⟨gk - 1, by omega⟩
            obtain ⟨x, hx⟩ : ∃ x, way[i]? = some x := ⟨_, List.getElem?_eq_getElem (by have := HI.out.1; omega)⟩
            obtain ⟨gw, hgw, cx⟩ := (RdI.of_own ho).1 i x hx
            subst hgw
            obtain ⟨o2, hr2, hm2⟩ := seen_put hB.m x
            have i0 : (0 : Int) ≤ (i : Int) := by omega
            have i1' : (i : Int) < (nw : Int) := by omega
            have i2' : i + 1 ≤ 1000 := by have := HI.out.2.1; omega
            have HY := Lib.hid (show i + 1 + k3 = nw + 1 ∧ i + 1 ≤ nw ∧ Bk w1 (putObj wr mg o2) mg (G ++ way.take (i + 1)) ∧ (putObj wr mg o2).ownsRow w1.heap.size 3 1 (.slice (some ⟨gw, 0, none⟩) nw cw) nw (ints way) from by
              refine ⟨by omega, by omega, ?_, own_putObj ho hB.l⟩
              have := hB.put hm2
              rwa [List.append_assoc, show way.take i ++ [x] = way.take (i + 1) from by rw [List.take_add_one, hx]; rfl] at this)
            clear hik hin hB ho hi hx hm2
            go_wp2
            go_roundg k3
            case measure => omega
            case rel => exact ⟨i + 1, by go_num, HY⟩
          · obtain rfl : i = nw := by omega
            have hin2 : ¬ ((i : Int) < (i : Int)) := by omega
            rw [List.take_of_length_le (by have := HI.out.1; omega)] at hB
            have hS := HS.out
            rw [HI.out.2.2] at hS
            have HY := Lib.hid (show j + 1 + k1 = n + 1 ∧ j + 1 ≤ n ∧ ∃ G, Bk w1 wr mg G ∧ backS ds es n (vs.drop (j + 1)) G = ans from ⟨by have := HJ.out; omega, by omega, _, hB, hS⟩)
            clear hB ho hS hik hin hi HS HJ HI
            go_wp2
            go_roundg k1
            case measure => omega
            case rel => exact ⟨j + 1, by go_num, HY⟩
    · obtain rfl : j = n := by omega
      have jn : ¬ ((j : Int) < (j : Int)) := by omega
      rw [List.drop_eq_nil_of_le (by have := HX.out.1; omega), backS] at hS
      have hbk := (HC.out.2.2.2.2.2.2.2.trans (hB.k.to_below fun i hi => ⟨by have := HG.out.2.2; have := HG.out.1; omega, fun hh => by have := HG.out.2.2; have := HG.out.1; have := HG.out.2.1; omega⟩))
      have HZ := Lib.hid (And.intro hS hbk)
      clear hB hS hjk hjn hj hbk
      go_wp2
      go_ret
      exact ⟨by rw [← HZ.out.1]; rfl, HZ.out.2⟩
end Go.Proofs.YtgihncjllelonaaGreat.Ce
