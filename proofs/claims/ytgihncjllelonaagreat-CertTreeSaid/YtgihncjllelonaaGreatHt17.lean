/- A map of rows of numbers, each row its own. -/
import Derived.Test.YtgihncjllelonaaGreatHt13
import Derived.Test.YtgihncjllelonaaGreatHt12
import Derived.Test.YtgihncjllelonaaGreatProg
import Derived.Test.YtgihncjllelonaaGreatHt14
import Derived.Test.YtgihncjllelonaaGreatHt2
import Derived.Test.YtgihncjllelonaaGreatHt4
import Derived.KernelRfl
import Derived.Deep.DrawnRows
import Derived.BigRegion
import Derived.Outline
import Derived.WalkLawsBesides
import Derived.WalkSpells
import Derived.Lib.Hide
import Derived.Deep.DeepCutAuto
import Derived.Deep.LoopGhost
namespace Go.Proofs.YtgihncjllelonaaGreat.Om
open Go Go.RowKit Go.MapKept Go.Proofs.YtgihncjllelonaaGreat.Mem Go.Proofs.YtgihncjllelonaaGreat.Sl Go.Proofs.YtgihncjllelonaaGreat.Lw
set_option linter.unusedSimpArgs false
set_option linter.unusedVariables false

abbrev Rw := Option (Value × List Int)
def rV (r : Rw) : Value := match r with | none => .slice none 0 0 | some p => p.1
def rL (r : Rw) : List Int := match r with | none => [] | some p => p.2
structure OM (w : World) (base mo : Nat) (F : Int → Rw) : Prop where
  m : MQ w mo (fun u => (F u).map (·.1))
  r : ∀ u, w.ownsRow base 3 1 (rV (F u)) (rL (F u)).length (ints (rL (F u)))
  ap : ∀ u u' k, u ≠ u' → (rV (F u)).ownBlock = some k → (rV (F u')).ownBlock ≠ some k
section
variable {w w' : World} {base mo : Nat} {F : Int → Rw} {u x : Int}
theorem OM.new (w : World) (B : Nat) : OM (w.alloc (.map #[] 0)) B w.heap.size (fun _ => none) :=
  ⟨MQ.new w, fun u => World.ownsRow_nil _ _ _ _, fun u u' k _ h => by simp [rV, Value.ownBlock] at h⟩
theorem OM.below (h : OM w base mo F) (hb : Below w.heap.size w w') : OM w' base mo F := ⟨h.m.below hb h.m.lt, fun u => own_below (h.r u) hb, h.ap⟩
theorem OM.drew (h : OM w base mo F) : OM w.drew base mo F := ⟨h.m, h.r, h.ap⟩
theorem OM.kept {p : Nat → Prop} (h : OM w base mo F) (hk : Kpt p w w') (h1 : ¬ p mo) (h2 : ∀ u k, (rV (F u)).ownBlock = some k → ¬ p k) : OM w' base mo F := by
  refine ⟨h.m.move (hk.block mo h.m.lt h1), fun u => ?_, h.ap⟩
  refine ⟨(h.r u).1, ?_⟩
  rcases (h.r u).2 with h0 | ⟨g, cap, cur, e1, e2, e3, rest⟩
  · exact .inl h0
  · exact .inr ⟨g, cap, cur, e1, e2, (hk.block g (lt_of_block e3) (h2 u g (by rw [e1]; rfl))).trans e3, rest⟩
theorem zero_row : ∀ w : World, (zeroValue 22).run Tryz.prog w = .ok (.slice none 0 0) w := fun w => by kernel_rfl
set_option maxRecDepth 100000 in
theorem OM.look (h : OM w base mo F) (u : Int) : (Instr.lookup 118 (.map (some mo)) (.int .i64 u) false).run Tryz.prog w = .ok (rV (F u)) w := by
  have := h.m.lookup (P := Tryz.prog) (T := 118) Tryz.underlying118 Tryz.underlying3 zero_row u
  have e : (((F u).map (·.1)).getD (.slice none 0 0)) = rV (F u) := by cases F u <;> rfl
  rwa [e] at this

set_option maxRecDepth 100000 in
theorem OM.lookG {o : Obj} (h : OM w base mo F) (hg : (w.alloc o).grownBy w' (rV (F u)).ownBlock) : (Instr.lookup 118 (.map (some mo)) (.int .i64 u) false).run Tryz.prog w' = .ok (rV (F u)) w' := by
  have h0 : OM (w.alloc o) base mo F := h.below ((Below.refl _ _).alloc (Nat.le_refl _) _)
  have hm : MQ w' mo (fun u => (F u).map (·.1)) := h0.m.grown hg (h0.m.own (h0.r u))
  have := hm.lookup (P := Tryz.prog) (T := 118) Tryz.underlying118 Tryz.underlying3 zero_row u
  have e : (((F u).map (·.1)).getD (.slice none 0 0)) = rV (F u) := by cases F u <;> rfl
  rwa [e] at this
set_option maxRecDepth 100000 in
theorem OM.push {o : Obj} {v' : Value} (h : OM w base mo F) (hb : base ≤ w.heap.size) (ho : w'.ownsRow base 3 1 v' ((rL (F u)).length + 1) (ints (rL (F u)) ++ [.int .i64 x])) (hg : (w.alloc o).grownBy w' (rV (F u)).ownBlock) (hn : v'.ownBlock = (rV (F u)).ownBlock ∨ v'.ownBlock = some (w.alloc o).heap.size) :
    ∃ o2, (Instr.mapUpdate 118 (.map (some mo)) (.int .i64 u) v').run Tryz.prog w' = .ok () (putObj w' mo o2) ∧ OM (putObj w' mo o2) base mo (fun y => if y = u then some (v', rL (F u) ++ [x]) else F y) ∧ Kpt (fun k => k = mo ∨ base ≤ k) w (putObj w' mo o2) := by
  have h0 : OM (w.alloc o) base mo F := h.below ((Below.refl _ _).alloc (Nat.le_refl _) _)
  have hm : MQ w' mo (fun u => (F u).map (·.1)) := h0.m.grown hg (h0.m.own (h0.r u))
  obtain ⟨o2, hr, hm2⟩ := hm.update (P := Tryz.prog) (T := 118) Tryz.underlying118 Tryz.underlying3 u v'
  have hrow : ∀ y, y ≠ u → w'.ownsRow base 3 1 (rV (F y)) (rL (F y)).length (ints (rL (F y))) := fun y hy => (h0.r y).kept hg (by
    cases hv : (rV (F y)).ownBlock with
    | none => exact .inl rfl
    | some k => exact .inr fun e => h.ap y u k hy hv e.symm)
  have hput : ∀ {v : Value} {xs : List Value} {n : Nat}, w'.ownsRow base 3 1 v n xs → (putObj w' mo o2).ownsRow base 3 1 v n xs := fun {v xs n} ho => by
    refine ⟨ho.1, ?_⟩
    rcases ho.2 with h0 | ⟨g, cap, cur, e1, e2, e3, rest⟩
    · exact .inl h0
    · refine .inr ⟨g, cap, cur, e1, e2, (putObj_far ?_).trans e3, rest⟩
      rintro rfl
      obtain ⟨es, clock, hb', _⟩ := hm
      rw [hb'] at e3
      cases e3
  refine ⟨o2, hr, ⟨?_, fun y => ?_, fun y y' k hy h1 => ?_⟩, ?_⟩
  · have he : updV (fun u => (F u).map (·.1)) u (some v') = fun y => (if y = u then some (v', rL (F u) ++ [x]) else F y).map (·.1) := by
      funext y
      unfold updV
      by_cases hy : y = u <;> simp [hy]
    rw [← he]
    exact hm2
  · by_cases hy : y = u
    · rw [if_pos hy]
      show (putObj w' mo o2).ownsRow base 3 1 v' (rL (F u) ++ [x]).length (ints (rL (F u) ++ [x]))
      rw [List.length_append, List.length_singleton, ← ints_snoc]
      exact hput ho
    · rw [if_neg hy]
      exact hput (hrow y hy)
  · have hnew : ∀ z k, (rV (F z)).ownBlock = some k → k < w.heap.size := fun z k hk => ((h.r z).lt k hk).2
    have hv' : ∀ k, v'.ownBlock = some k → (rV (F u)).ownBlock = some k ∨ w.heap.size ≤ k := fun k hk => by
      rcases hn with e | e
      · exact .inl (e ▸ hk)
      · rw [e] at hk
        cases hk
        exact .inr (by simp)
    by_cases e1 : y = u
    · rw [if_pos e1] at h1
      rw [if_neg (fun e => hy (e1.trans e.symm))]
      intro h2
      rcases hv' k h1 with h3 | h3
      · exact h.ap u y' k (fun e => hy (e1.trans e)) h3 h2
      · have := hnew y' k h2
        omega
    · rw [if_neg e1] at h1
      by_cases e2 : y' = u
      · rw [if_pos e2]
        intro h2
        rcases hv' k h2 with h3 | h3
        · exact h.ap u y k (fun e => e1 e.symm) h3 h1
        · have := hnew y k h1
          omega
      · rw [if_neg e2]
        exact h.ap y y' k hy h1
  · have k1 : Kpt (fun k => k = mo ∨ base ≤ k) w w' := ((Kpt.refl _ w).alloc o).grown hg fun k hk _ => .inr ((h.r u).lt k hk).1
    exact k1.trans ⟨rfl, rfl, rfl, by rw [putObj_size]; exact Nat.le_refl _, fun k _ hn => putObj_far fun e => hn (.inl e)⟩
end
end Go.Proofs.YtgihncjllelonaaGreat.Om

/- The plain model of heap.Heap[int, float32]: items (key, rank, came); the heap's order; its places. -/
namespace Go.Proofs.YtgihncjllelonaaGreat.Hn
set_option linter.unusedSimpArgs false
set_option linter.unusedVariables false

abbrev Itm := Int × Nat × Int

def aheadI (a b : Itm) : Bool := if a.2.1 < b.2.1 then true else if b.2.1 < a.2.1 then false else decide (a.2.2 < b.2.2)
def z : Itm := (0, 0, 0)
def swapL (its : List Itm) (i j : Nat) : List Itm := (its.set i (its.getD j z)).set j (its.getD i z)

def upS : Nat → List Itm → Nat → Option (List Itm)
  | 0, _, _ => none
  | k + 1, its, i =>
    if i < its.length then
      (if 0 < i then (if aheadI (its.getD i z) (its.getD ((i - 1) / 2) z) = true then upS k (swapL its i ((i - 1) / 2)) ((i - 1) / 2) else some its) else some its)
    else none

def leastS (its : List Itm) (i : Nat) : Nat :=
  let a := if 2 * i + 1 < its.length ∧ aheadI (its.getD (2 * i + 1) z) (its.getD i z) = true then 2 * i + 1 else i
  if 2 * i + 2 < its.length ∧ aheadI (its.getD (2 * i + 2) z) (its.getD a z) = true then 2 * i + 2 else a

def downS : Nat → List Itm → Nat → Option (List Itm)
  | 0, _, _ => none
  | k + 1, its, i =>
    if i < its.length ∧ its.length < 1000000 then
      (if leastS its i = i then some its else downS k (swapL its i (leastS its i)) (leastS its i))
    else none

theorem swapL_length (its : List Itm) (i j : Nat) : (swapL its i j).length = its.length := by simp [swapL]
theorem leastS_lt {its : List Itm} {i : Nat} (h : i < its.length) : leastS its i < its.length := by
  unfold leastS
  dsimp only
  have h1 : (if 2 * i + 1 < its.length ∧ aheadI (its.getD (2 * i + 1) z) (its.getD i z) = true then 2 * i + 1 else i) < its.length := by split <;> omega
  generalize (if 2 * i + 1 < its.length ∧ aheadI (its.getD (2 * i + 1) z) (its.getD i z) = true then 2 * i + 1 else i) = a at h1 ⊢
  split <;> omega
def Fits (f : Int → Option Int) (its : List Itm) : Prop := ∀ (k i : Int), f k = some i ↔ ∃ n : Nat, i = (n : Int) ∧ ∃ x, its[n]? = some x ∧ x.1 = k

theorem swapL_get (its : List Itm) {i j : Nat} (hi : i < its.length) (hj : j < its.length) (n : Nat) :
    (swapL its i j)[n]? = if n = j then its[i]? else if n = i then its[j]? else its[n]? := by
  unfold swapL
  rw [List.getElem?_set]
  by_cases h1 : j = n
  · subst h1
    rw [if_pos rfl, if_pos rfl, List.length_set, if_pos hj, List.getD_eq_getElem?_getD, List.getElem?_eq_getElem hi]
    rfl
  · rw [if_neg h1, if_neg (Ne.symm h1), List.getElem?_set]
    by_cases h2 : i = n
    · subst h2
      rw [if_pos rfl, if_pos rfl, if_pos hi, List.getD_eq_getElem?_getD, List.getElem?_eq_getElem hj]
      rfl
    · rw [if_neg h2, if_neg (Ne.symm h2)]

theorem Fits.swap {f : Int → Option Int} {its : List Itm} (h : Fits f its) {i j : Nat} {a b : Itm} (ha : its[i]? = some a) (hb : its[j]? = some b) :
    Fits (fun x => if x = a.1 then some (j : Int) else if x = b.1 then some (i : Int) else f x) (swapL its i j) := by
  have hi : i < its.length := (List.getElem?_eq_some_iff.1 ha).1
  have hj : j < its.length := (List.getElem?_eq_some_iff.1 hb).1
  have uniq : ∀ {n m : Nat} {x y : Itm}, its[n]? = some x → its[m]? = some y → x.1 = y.1 → n = m := by
    intro n m x y h1 h2 h3
    have e1 := (h x.1 n).2 ⟨n, rfl, x, h1, rfl⟩
    have e2 := (h x.1 m).2 ⟨m, rfl, y, h2, h3.symm⟩
    rw [e1] at e2
    have := Option.some.inj e2
    omega
  intro k m
  dsimp only
  by_cases h1 : k = a.1
  · rw [if_pos h1]
    constructor
    · intro he
      cases he
      exact ⟨j, rfl, a, by rw [swapL_get its hi hj, if_pos rfl, ha], h1.symm⟩
    · rintro ⟨n, rfl, x, hx, hk⟩
      rw [swapL_get its hi hj] at hx
      by_cases hn : n = j
      · rw [hn]
      · rw [if_neg hn] at hx
        by_cases hni : n = i
        · rw [if_pos hni] at hx
          have := uniq hx ha (by rw [hk, h1])
          omega
        · rw [if_neg hni] at hx
          exact absurd (uniq hx ha (by rw [hk, h1])) hni
  · rw [if_neg h1]
    by_cases h2 : k = b.1
    · rw [if_pos h2]
      constructor
      · intro he
        cases he
        refine ⟨i, rfl, b, ?_, h2.symm⟩
        rw [swapL_get its hi hj]
        by_cases hij : i = j
        · subst hij
          rw [if_pos rfl]; exact hb
        · rw [if_neg hij, if_pos rfl, hb]
      · rintro ⟨n, rfl, x, hx, hk⟩
        rw [swapL_get its hi hj] at hx
        by_cases hn : n = j
        · rw [if_pos hn, ha] at hx
          cases hx
          exact absurd hk.symm h1
        · rw [if_neg hn] at hx
          by_cases hni : n = i
          · rw [hni]
          · rw [if_neg hni] at hx
            exact absurd (uniq hx hb (by rw [hk, h2])) hn
    · rw [if_neg h2, h]
      constructor
      · rintro ⟨n, rfl, x, hx, hk⟩
        refine ⟨n, rfl, x, ?_, hk⟩
        rw [swapL_get its hi hj]
        by_cases hn : n = j
        · subst hn
          rw [hb] at hx
          cases hx
          exact absurd hk.symm h2
        · rw [if_neg hn]
          by_cases hni : n = i
          · subst hni
            rw [ha] at hx
            cases hx
            exact absurd hk.symm h1
          · rw [if_neg hni]; exact hx
      · rintro ⟨n, rfl, x, hx, hk⟩
        refine ⟨n, rfl, x, ?_, hk⟩
        rw [swapL_get its hi hj] at hx
        by_cases hn : n = j
        · rw [if_pos hn, ha] at hx
          cases hx
          exact absurd hk.symm h1
        · rw [if_neg hn] at hx
          by_cases hni : n = i
          · rw [if_pos hni, hb] at hx
            cases hx
            exact absurd hk.symm h2
          · rw [if_neg hni] at hx; exact hx

theorem Fits.nil : Fits (fun _ => none) [] := fun k i => ⟨fun h => (by cases h), fun ⟨n, _, x, h, _⟩ => by simp at h⟩

theorem Fits.push {f : Int → Option Int} {its : List Itm} (h : Fits f its) {x : Itm} (hn : f x.1 = none) : Fits (fun y => if y = x.1 then some (its.length : Int) else f y) (its ++ [x]) := by
  intro k i
  dsimp only
  by_cases hk : k = x.1
  · rw [if_pos hk]
    constructor
    · intro he
      cases he
      exact ⟨its.length, rfl, x, by simp, hk.symm⟩
    · rintro ⟨n, rfl, y, hy, he⟩
      rcases Nat.lt_or_ge n its.length with h1 | h1
      · rw [List.getElem?_append_left h1] at hy
        have := (h k n).2 ⟨n, rfl, y, hy, he⟩
        rw [hk, hn] at this
        cases this
      · rw [List.getElem?_append_right h1] at hy
        have : n - its.length = 0 := by
          rcases Nat.eq_zero_or_pos (n - its.length) with h2 | h2
          · exact h2
          · rw [List.getElem?_eq_none (by simp; omega)] at hy; cases hy
        rw [show n = its.length by omega]
  · rw [if_neg hk, h]
    constructor
    · rintro ⟨n, rfl, y, hy, he⟩
      exact ⟨n, rfl, y, by rw [List.getElem?_append_left (List.getElem?_eq_some_iff.1 hy).1]; exact hy, he⟩
    · rintro ⟨n, rfl, y, hy, he⟩
      rcases Nat.lt_or_ge n its.length with h1 | h1
      · rw [List.getElem?_append_left h1] at hy
        exact ⟨n, rfl, y, hy, he⟩
      · rw [List.getElem?_append_right h1] at hy
        have : n - its.length = 0 := by
          rcases Nat.eq_zero_or_pos (n - its.length) with h2 | h2
          · exact h2
          · rw [List.getElem?_eq_none (by simp; omega)] at hy; cases hy
        rw [this] at hy
        cases hy
        exact absurd he.symm hk

theorem Fits.pop {f : Int → Option Int} {its : List Itm} {x : Itm} (h : Fits f (its ++ [x])) : Fits (fun y => if y = x.1 then none else f y) its := by
  have hx := (h x.1 its.length).2 ⟨its.length, rfl, x, by simp, rfl⟩
  intro k i
  dsimp only
  by_cases hk : k = x.1
  · rw [if_pos hk]
    constructor
    · intro he; cases he
    · rintro ⟨n, rfl, y, hy, he⟩
      have h1 := (List.getElem?_eq_some_iff.1 hy).1
      have h2 := (h k n).2 ⟨n, rfl, y, by rw [List.getElem?_append_left h1]; exact hy, he⟩
      rw [hk, hx] at h2
      have := Option.some.inj h2
      omega
  · rw [if_neg hk, h]
    constructor
    · rintro ⟨n, rfl, y, hy, he⟩
      rcases Nat.lt_or_ge n its.length with h1 | h1
      · rw [List.getElem?_append_left h1] at hy
        exact ⟨n, rfl, y, hy, he⟩
      · rw [List.getElem?_append_right h1] at hy
        have : n - its.length = 0 := by
          rcases Nat.eq_zero_or_pos (n - its.length) with h2 | h2
          · exact h2
          · rw [List.getElem?_eq_none (by simp; omega)] at hy; cases hy
        rw [this] at hy
        cases hy
        exact absurd he.symm hk
    · rintro ⟨n, rfl, y, hy, he⟩
      exact ⟨n, rfl, y, by rw [List.getElem?_append_left (List.getElem?_eq_some_iff.1 hy).1]; exact hy, he⟩

end Go.Proofs.YtgihncjllelonaaGreat.Hn

/- The plain law of the heap: rising and sinking end, keep what is in, and bring the least to the head. -/
namespace Go.Proofs.YtgihncjllelonaaGreat.Hn

def leI (a b : Itm) : Prop := aheadI b a = false
theorem ahead_iff (a b : Itm) : aheadI a b = true ↔ a.2.1 < b.2.1 ∨ (a.2.1 = b.2.1 ∧ a.2.2 < b.2.2) := by
  unfold aheadI
  split
  · simp; omega
  · split
    · simp; omega
    · simp; omega
theorem leI_iff (a b : Itm) : leI a b ↔ ¬ (b.2.1 < a.2.1 ∨ (b.2.1 = a.2.1 ∧ b.2.2 < a.2.2)) := by
  unfold leI
  rw [← ahead_iff]
  simp
theorem leI_refl (a : Itm) : leI a a := by rw [leI_iff]; omega
theorem leI_trans {a b c : Itm} (h : leI a b) (h' : leI b c) : leI a c := by rw [leI_iff] at *; omega
theorem leI_of_ahead {a b : Itm} (h : aheadI a b = true) : leI a b := by rw [leI_iff]; rw [ahead_iff] at h; omega
theorem leI_of_not {a b : Itm} (h : ¬ aheadI a b = true) : leI b a := by unfold leI; simpa using h

def IsHeap (its : List Itm) : Prop := ∀ j, 0 < j → j < its.length → leI (its.getD ((j - 1) / 2) z) (its.getD j z)

theorem swapL_getD (its : List Itm) {i j : Nat} (hi : i < its.length) (hj : j < its.length) (n : Nat) : (swapL its i j).getD n z = if n = j then its.getD i z else if n = i then its.getD j z else its.getD n z := by
  rw [List.getD_eq_getElem?_getD, swapL_get its hi hj]
  split
  · rw [List.getD_eq_getElem?_getD]
  · split <;> rw [List.getD_eq_getElem?_getD]

theorem mem_swapL (its : List Itm) {i j : Nat} (hi : i < its.length) (hj : j < its.length) (x : Itm) : x ∈ swapL its i j ↔ x ∈ its := by
  rw [List.mem_iff_getElem?, List.mem_iff_getElem?]
  constructor
  · rintro ⟨n, hn⟩
    rw [swapL_get its hi hj] at hn
    split at hn
    · exact ⟨_, hn⟩
    · split at hn
      · exact ⟨_, hn⟩
      · exact ⟨_, hn⟩
  · rintro ⟨n, hn⟩
    by_cases h1 : n = i
    · refine ⟨j, ?_⟩
      rw [swapL_get its hi hj, if_pos rfl, ← h1, hn]
    · by_cases h2 : n = j
      · refine ⟨i, ?_⟩
        rw [swapL_get its hi hj]
        by_cases h3 : i = j
        · rw [if_pos h3]; omega
        · rw [if_neg h3, if_pos rfl, ← h2, hn]
      · exact ⟨n, by rw [swapL_get its hi hj, if_neg h2, if_neg h1, hn]⟩

theorem up_ok : ∀ (k : Nat) (its : List Itm) (i : Nat), i < its.length → i < k →
    (∀ j, 0 < j → j < its.length → j ≠ i → leI (its.getD ((j - 1) / 2) z) (its.getD j z)) →
    (∀ j, 0 < j → j < its.length → (j - 1) / 2 = i → 0 < i → leI (its.getD ((i - 1) / 2) z) (its.getD j z)) →
    ∃ R, upS k its i = some R ∧ IsHeap R ∧ R.length = its.length ∧ ∀ x, x ∈ R ↔ x ∈ its
  | 0, _, _, _, hk, _, _ => by omega
  | k + 1, its, i, hi, hk, h1, h2 => by
    rw [upS, if_pos hi]
    by_cases h0 : 0 < i
    · rw [if_pos h0]
      by_cases ha : aheadI (its.getD i z) (its.getD ((i - 1) / 2) z) = true
      · rw [if_pos ha]
        obtain ⟨p, hp⟩ : ∃ p, (i - 1) / 2 = p := ⟨_, rfl⟩
        have hpi : p < i := by omega
        have hpl : p < its.length := by omega
        rw [hp] at ha ⊢
        have hg := swapL_getD its hi hpl
        obtain ⟨R, r1, r2, r3, r4⟩ := up_ok k (swapL its i p) p (by rw [swapL_length]; exact hpl) (by omega) (by
          intro j hj hjl hjp
          rw [swapL_length] at hjl
          rw [hg, hg, if_neg hjp]
          by_cases hji : j = i
          · rw [if_pos hji, hji, hp, if_pos rfl]
            exact leI_of_ahead ha
          · rw [if_neg hji]
            by_cases e1 : (j - 1) / 2 = p
            · rw [if_pos e1]
              have := h1 j hj hjl hji
              rw [e1] at this
              exact leI_trans (leI_of_ahead ha) this
            · rw [if_neg e1]
              by_cases e2 : (j - 1) / 2 = i
              · rw [if_pos e2]
                have := h2 j hj hjl e2 h0
                rw [hp] at this
                exact this
              · rw [if_neg e2]
                exact h1 j hj hjl hji) (by
          intro j hj hjl hjp hp0
          rw [swapL_length] at hjl
          rw [hg, hg, if_neg (show ¬ (p - 1) / 2 = p by omega), if_neg (show ¬ (p - 1) / 2 = i by omega), if_neg (show ¬ j = p by omega)]
          have hpp := h1 p hp0 hpl (by omega)
          by_cases hji : j = i
          · rw [if_pos hji]
            exact hpp
          · rw [if_neg hji]
            have := h1 j hj hjl hji
            rw [hjp] at this
            exact leI_trans hpp this)
        exact ⟨R, r1, r2, by rw [r3, swapL_length], fun x => (r4 x).trans (mem_swapL its hi hpl x)⟩
      · rw [if_neg ha]
        refine ⟨its, rfl, ?_, rfl, fun x => Iff.rfl⟩
        intro j hj hjl
        by_cases hji : j = i
        · rw [hji]; exact leI_of_not ha
        · exact h1 j hj hjl hji
    · rw [if_neg h0]
      refine ⟨its, rfl, ?_, rfl, fun x => Iff.rfl⟩
      intro j hj hjl
      exact h1 j hj hjl (by omega)

theorem push_ok {its : List Itm} (h : IsHeap its) (x : Itm) : ∃ R, upS (its.length + 1) (its ++ [x]) its.length = some R ∧ IsHeap R ∧ R.length = its.length + 1 ∧ ∀ y, y ∈ R ↔ y ∈ its ∨ y = x := by
  have hl : (its ++ [x]).length = its.length + 1 := by simp
  have hg : ∀ j, j < its.length → (its ++ [x]).getD j z = its.getD j z := fun j hj => by
    rw [List.getD_eq_getElem?_getD, List.getElem?_append_left hj, List.getD_eq_getElem?_getD]
  obtain ⟨R, r1, r2, r3, r4⟩ := up_ok (its.length + 1) (its ++ [x]) its.length (by omega) (by omega) (by
    intro j hj hjl hne
    rw [hg _ (by omega), hg _ (by omega)]
    exact h j hj (by omega)) (by
    intro j hj hjl he h0
    omega)
  exact ⟨R, r1, r2, by omega, fun y => by rw [r4]; simp⟩

theorem leastS_cases {its : List Itm} {i : Nat} : leastS its i = i ∨ (leastS its i = 2 * i + 1 ∧ 2 * i + 1 < its.length) ∨ (leastS its i = 2 * i + 2 ∧ 2 * i + 2 < its.length) := by
  unfold leastS
  dsimp only
  by_cases h1 : 2 * i + 1 < its.length ∧ aheadI (its.getD (2 * i + 1) z) (its.getD i z) = true
  · rw [if_pos h1]
    split
    · rename_i h2; right; right; exact ⟨rfl, h2.1⟩
    · right; left; exact ⟨rfl, h1.1⟩
  · rw [if_neg h1]
    split
    · rename_i h2; right; right; exact ⟨rfl, h2.1⟩
    · left; rfl
theorem leastS_le {its : List Itm} {i : Nat} : leI (its.getD (leastS its i) z) (its.getD i z) ∧ (2 * i + 1 < its.length → leI (its.getD (leastS its i) z) (its.getD (2 * i + 1) z)) ∧ (2 * i + 2 < its.length → leI (its.getD (leastS its i) z) (its.getD (2 * i + 2) z)) := by
  unfold leastS
  dsimp only
  by_cases h1 : 2 * i + 1 < its.length ∧ aheadI (its.getD (2 * i + 1) z) (its.getD i z) = true
  · rw [if_pos h1]
    have a1 := leI_of_ahead h1.2
    by_cases h2 : 2 * i + 2 < its.length ∧ aheadI (its.getD (2 * i + 2) z) (its.getD (2 * i + 1) z) = true
    · rw [if_pos h2]
      have a2 := leI_of_ahead h2.2
      exact ⟨leI_trans a2 a1, fun _ => a2, fun _ => leI_refl _⟩
    · rw [if_neg h2]
      exact ⟨a1, fun _ => leI_refl _, fun h => leI_of_not (fun h3 => h2 ⟨h, h3⟩)⟩
  · rw [if_neg h1]
    by_cases h2 : 2 * i + 2 < its.length ∧ aheadI (its.getD (2 * i + 2) z) (its.getD i z) = true
    · rw [if_pos h2]
      have a2 := leI_of_ahead h2.2
      exact ⟨a2, fun h => leI_trans a2 (leI_of_not (fun h3 => h1 ⟨h, h3⟩)), fun _ => leI_refl _⟩
    · rw [if_neg h2]
      exact ⟨leI_refl _, fun h => leI_of_not (fun h3 => h1 ⟨h, h3⟩), fun h => leI_of_not (fun h3 => h2 ⟨h, h3⟩)⟩

theorem down_ok : ∀ (k : Nat) (its : List Itm) (i : Nat), i < its.length → its.length - i < k → its.length < 1000000 →
    (∀ j, 0 < j → j < its.length → (j - 1) / 2 ≠ i → leI (its.getD ((j - 1) / 2) z) (its.getD j z)) →
    (∀ j, 0 < j → j < its.length → (j - 1) / 2 = i → 0 < i → leI (its.getD ((i - 1) / 2) z) (its.getD j z)) →
    ∃ R, downS k its i = some R ∧ IsHeap R ∧ R.length = its.length ∧ ∀ x, x ∈ R ↔ x ∈ its
  | 0, _, _, _, hk, _, _, _ => by omega
  | k + 1, its, i, hi, hk, hb, h1, h2 => by
    rw [downS, if_pos ⟨hi, hb⟩]
    have hle := @leastS_le its i
    have hc := @leastS_cases its i
    obtain ⟨l, hl⟩ : ∃ l, leastS its i = l := ⟨_, rfl⟩
    rw [hl] at hle hc ⊢
    by_cases hli : l = i
    · rw [if_pos hli]
      refine ⟨its, rfl, ?_, rfl, fun x => Iff.rfl⟩
      intro j hj hjl
      by_cases hji : (j - 1) / 2 = i
      · rw [hji]
        rw [hli] at hle
        rcases Nat.lt_or_ge j (2 * i + 2) with h3 | h3
        · rw [show j = 2 * i + 1 by omega] at hjl ⊢
          exact hle.2.1 hjl
        · rw [show j = 2 * i + 2 by omega] at hjl ⊢
          exact hle.2.2 hjl
      · exact h1 j hj hjl hji
    · rw [if_neg hli]
      have hll : l < its.length ∧ (l - 1) / 2 = i ∧ i < l := by
        rcases hc with h | ⟨h, h'⟩ | ⟨h, h'⟩
        · exact absurd h hli
        · omega
        · omega
      have hg := swapL_getD its hi hll.1
      obtain ⟨R, r1, r2, r3, r4⟩ := down_ok k (swapL its i l) l (by rw [swapL_length]; exact hll.1) (by rw [swapL_length]; omega) (by rw [swapL_length]; exact hb) (by
        intro j hj hjl hjp
        rw [swapL_length] at hjl
        rw [hg, hg, if_neg hjp]
        by_cases e1 : (j - 1) / 2 = i
        · rw [if_pos e1]
          by_cases e2 : j = l
          · rw [if_pos e2]; exact hle.1
          · rw [if_neg e2, if_neg (show ¬ j = i by omega)]
            rcases Nat.lt_or_ge j (2 * i + 2) with h3 | h3
            · rw [show j = 2 * i + 1 by omega] at hjl ⊢
              exact hle.2.1 hjl
            · rw [show j = 2 * i + 2 by omega] at hjl ⊢
              exact hle.2.2 hjl
        · rw [if_neg e1, if_neg (show ¬ j = l by omega)]
          by_cases e2 : j = i
          · rw [if_pos e2]
            have := h2 l (by omega) hll.1 hll.2.1 (by omega)
            rw [e2]
            exact this
          · rw [if_neg e2]
            exact h1 j hj hjl e1) (by
        intro j hj hjl hjp hl0
        rw [swapL_length] at hjl
        rw [hg, hg, hll.2.1, if_neg (show ¬ i = l by omega), if_pos rfl, if_neg (show ¬ j = l by omega), if_neg (show ¬ j = i by omega)]
        have := h1 j hj hjl (by omega)
        rw [hjp] at this
        exact this)
      exact ⟨R, r1, r2, by rw [r3, swapL_length], fun x => (r4 x).trans (mem_swapL its hi hll.1 x)⟩

end Go.Proofs.YtgihncjllelonaaGreat.Hn

/- heap.Heap[int, float32] in memory; its less; ahead; swap. -/
namespace Go.Proofs.YtgihncjllelonaaGreat.Hf
open Go Go.RowKit Go.Proofs.YtgihncjllelonaaGreat.Mem Go.Proofs.YtgihncjllelonaaGreat.Hn Go.Proofs.YtgihncjllelonaaGreatW.PrintWords Go.Proofs.YtgihncjllelonaaGreatW.PrintLast
attribute [local go_sem ↓] Go.wp_at_zero Go.wp_at_succ
attribute [local go_sem] Go.Proofs.YtgihncjllelonaaGreat.Wt.run_store_float
set_option linter.unusedSimpArgs false
set_option linter.unusedVariables false

theorem info_item : (Tryz.prog.info? 195).map (fun i => (i.zero, i.size, i.bytes)) = some (some (.agg #[.int .i64 0, .float .f32 0, .int .i64 0]), 3, 24) := by kernel_rfl

theorem goesV_ {P : Program} {ops : Array Oper} {Q : Exit → Act → World → Prop} {oi : Oper} {N : Option Tmp} {a : Act} {w : World} {K : Act → World → Prop} {f : FuncId} {fn : Func} {opds : Array Operand} {ts : Array TypeId} (hf : P.funcs[f]? = some fn) (hname : (fn.name == "runtime.NumGoroutine") = false) (hb : fn.body.isSome = true) (args : Array Value)
    (hw : Region.wanted oi (yielded ops a.tmps) = true) (hN : oi.dst = N) (t : Operand) (ht : a.eval t = .func (.func f) #[] #[]) (hop : oi.op = .call { callee := .value t, args := opds, argTypes := ts }) (hargs : opds.map a.eval = args)
    (h : Calls P f args w fun e w' => ∃ v, e = .returned v ∧ K (a.put N v) w') : if Region.wanted oi (yielded ops a.tmps) = true then Oper.wp P oi a w K Q else K (a.put N undef) w := by
  refine call_ f args hw hN ?_ h
  have he := enters_ hf hname hb args w
  unfold execOp
  simp [hop, resolve, Deferred.ofValue, invoke, ht, hargs, he]

def enc (l : List Itm) : List Value := l.flatMap fun p => [.int .i64 p.1, .float .f32 p.2.1, .int .i64 p.2.2]
theorem enc_length (l : List Itm) : (enc l).length = l.length * 3 := by
  induction l with
  | nil => rfl
  | cons p r ih => simp only [enc, List.flatMap_cons, List.length_append, List.length_cons, List.length_nil] at *; omega
theorem enc_cons (p : Itm) (l : List Itm) : enc (p :: l) = .int .i64 p.1 :: .float .f32 p.2.1 :: .int .i64 p.2.2 :: enc l := by simp [enc]
theorem enc_append (a b : List Itm) : enc (a ++ b) = enc a ++ enc b := by simp [enc]
theorem enc_at : ∀ (l : List Itm) (n : Nat) (x : Itm), l[n]? = some x → (enc l)[n * 3]? = some (.int .i64 x.1) ∧ (enc l)[n * 3 + 1]? = some (.float .f32 x.2.1) ∧ (enc l)[n * 3 + 2]? = some (.int .i64 x.2.2)
  | [], n, x, h => by simp at h
  | p :: l, 0, x, h => by
    cases h
    rw [enc_cons]
    exact ⟨rfl, rfl, rfl⟩
  | p :: l, n + 1, x, h => by
    have := enc_at l n x (by simpa using h)
    rw [enc_cons, show (n + 1) * 3 = n * 3 + 1 + 1 + 1 by omega]
    exact this
theorem enc_set : ∀ (l : List Itm) (n : Nat) (x : Itm), (((enc l).set (n * 3) (.int .i64 x.1)).set (n * 3 + 1) (.float .f32 x.2.1)).set (n * 3 + 2) (.int .i64 x.2.2) = enc (l.set n x)
  | [], n, x => by simp [enc]
  | p :: l, 0, x => by rw [List.set_cons_zero, enc_cons, enc_cons]; rfl
  | p :: l, n + 1, x => by
    rw [List.set_cons_succ, enc_cons, enc_cons, show (n + 1) * 3 = n * 3 + 1 + 1 + 1 by omega]
    simp only [List.set_cons_succ]
    rw [enc_set l n x]

structure Hp (w : World) (base hb mb : Nat) (iv : Value) (its : List Itm) (came : Int) : Prop where
  hat : At w hb [.func (.func 56) #[] #[], iv, .map (some mb), .int .i64 came] 193
  own : w.ownsRow base 195 3 iv its.length (enc its)
  mp : ∃ f, MP w mb f ∧ Fits f its
  lb : hb < base
  lm : mb < base
  rk : ∀ x ∈ its, x.2.1 ≤ 2139095040

theorem Hp.drew {w : World} {base hb mb : Nat} {iv : Value} {its : List Itm} {came : Int} (h : Hp w base hb mb iv its came) : Hp w.drew base hb mb iv its came := ⟨h.hat, h.own, h.mp, h.lb, h.lm, h.rk⟩
theorem Hp.drewN {w : World} {base hb mb : Nat} {iv : Value} {its : List Itm} {came : Int} (h : Hp w base hb mb iv its came) (n : Nat) : Hp (w.drewN n) base hb mb iv its came := ⟨h.hat, h.own, h.mp, h.lb, h.lm, h.rk⟩
theorem Hp.below {w w' : World} {base hb mb : Nat} {iv : Value} {its : List Itm} {came : Int} (h : Hp w base hb mb iv its came) (hb' : Below w.heap.size w w') : Hp w' base hb mb iv its came := by
  obtain ⟨f, h1, h2⟩ := h.mp
  exact ⟨h.hat.below hb' h.hat.lt, own_move h.own (fun k hk => hb'.block k (h.own.lt k hk).2), ⟨f, h1.below hb' h1.lt, h2⟩, h.lb, h.lm, h.rk⟩

theorem less_calls (a b : Nat) (w : World) (ha : a ≤ 2139095040) (hb : b ≤ 2139095040) : Calls Tryz.prog 56 #[.float .f32 a, .float .f32 b] w fun e w' => e = .returned (.bool (decide (a < b))) ∧ w' = w := Wt.before_calls a b w ha hb
end Go.Proofs.YtgihncjllelonaaGreat.Hf
