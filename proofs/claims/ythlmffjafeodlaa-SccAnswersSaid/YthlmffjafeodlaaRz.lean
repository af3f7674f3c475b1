/- Rows of numbers that lie apart, each its own; a list of their slices beside them. -/
import Derived.Test.YthlmffjafeodlaaLw5
namespace Go.Proofs.Ythlmffjafeodlaa.Lw
open Go Go.RowKit Go.Proofs.Ythlmffjafeodlaa.Mem Go.Proofs.Ythlmffjafeodlaa.Sl Go.Proofs.Ythlmffjafeodlaa.Scc Go.Proofs.Ythlmffjafeodlaa.Tj Go.Proofs.YthlmffjafeodlaaW.PrintWords Go.Proofs.YthlmffjafeodlaaW.PrintLast
set_option linter.unusedSimpArgs false
set_option linter.unusedVariables false

/-- Rows of numbers, each its own, apart. -/
structure Rz (w : World) (base : Nat) (vals : List Value) (ls : List (List Int)) : Prop where
  ln : vals.length = ls.length
  own : ∀ (i : Nat) (v : Value) (r : List Int), vals[i]? = some v → ls[i]? = some r → w.ownsRow base 3 1 v r.length (ints r)
  apart : ∀ (i j : Nat) (v u : Value), i ≠ j → vals[i]? = some v → vals[j]? = some u → v.ownBlock = none ∨ v.ownBlock ≠ u.ownBlock

theorem own_types {w : World} {b1 b2 : Nat} {e1 e2 : TypeId} {s1 s2 n1 n2 : Nat} {v1 v2 : Value} {x1 x2 : List Value} (h1 : w.ownsRow b1 e1 s1 v1 n1 x1) (h2 : w.ownsRow b2 e2 s2 v2 n2 x2) (hne : e1 ≠ e2) : v1.ownBlock = none ∨ v1.ownBlock ≠ v2.ownBlock := by
  rcases h1.2 with ⟨rfl, _⟩ | ⟨g, cap, cur, rfl, _, hg, _⟩
  · exact .inl rfl
  · right
    intro he
    rcases h2.2 with ⟨rfl, _⟩ | ⟨g2, cap2, cur2, rfl, _, hg2, _⟩
    · simp [Value.ownBlock] at he
    · simp only [Value.ownBlock, Option.some.injEq] at he
      subst he
      rw [hg] at hg2
      cases hg2
      exact hne rfl

section
variable {w w' : World} {base : Nat} {vals : List Value} {ls : List (List Int)}
theorem Rz.below (h : Rz w base vals ls) (hb : Below w.heap.size w w') : Rz w' base vals ls := ⟨h.ln, fun i v r h1 h2 => own_below (h.own i v r h1 h2) hb, h.apart⟩
theorem Rz.mono {base' : Nat} (h : Rz w base vals ls) (hb : base' ≤ base) : Rz w base' vals ls := ⟨h.ln, fun i v r h1 h2 => own_mono (h.own i v r h1 h2) hb, h.apart⟩
theorem Rz.of_rows {bo n : Nat} (h : RwsI w base bo n vals ls) : Rz w base vals ls := ⟨h.lv.trans h.lo.symm, h.own, h.apart⟩
theorem Rz.nil : Rz w base [] [] := ⟨rfl, fun i v r h => by simp at h, fun i j v u _ h => by simp at h⟩

theorem Rz.snoc {B : Nat} {v : Value} {r : List Int} (h : Rz w base vals ls) (hb : Below w.heap.size w w') (hB : w.heap.size ≤ B) (hbase : base ≤ w.heap.size) (ho : w'.ownsRow B 3 1 v r.length (ints r)) : Rz w' base (vals ++ [v]) (ls ++ [r]) := by
  have h' := h.below hb
  have hold : ∀ (i : Nat) (u : Value), vals[i]? = some u → u.ownBlock = none ∨ (u.ownBlock ≠ v.ownBlock ∧ v.ownBlock ≠ u.ownBlock) := by
    intro i u hu
    cases hk : u.ownBlock with
    | none => exact .inl rfl
    | some k =>
      right
      have hi : i < ls.length := by rw [← h.ln]; exact (List.getElem?_eq_some_iff.1 hu).1
      have := ((h.own i u _ hu (List.getElem?_eq_getElem hi)).lt k hk).2
      constructor <;> intro he
      · have := (ho.lt k he.symm).1; omega
      · have := (ho.lt k he).1; omega
  refine ⟨by simp [h.ln], fun i u r' h1 h2 => ?_, fun i j u u' hne h1 h2 => ?_⟩
  · rcases Nat.lt_or_ge i vals.length with hi | hi
    · rw [List.getElem?_append_left hi] at h1
      rw [List.getElem?_append_left (by rw [← h.ln]; exact hi)] at h2
      exact h'.own i u r' h1 h2
    · rw [List.getElem?_append_right hi] at h1
      rw [List.getElem?_append_right (by rw [← h.ln]; exact hi), ← h.ln] at h2
      have hi0 : i - vals.length = 0 := by
        have := (List.getElem?_eq_some_iff.1 h1).1
        simp at this
        omega
      rw [hi0] at h1 h2
      cases h1
      cases h2
      exact own_mono ho (by omega)
  · rcases Nat.lt_or_ge i vals.length with hi | hi <;> rcases Nat.lt_or_ge j vals.length with hj | hj
    · rw [List.getElem?_append_left hi] at h1
      rw [List.getElem?_append_left hj] at h2
      exact h.apart i j u u' hne h1 h2
    · rw [List.getElem?_append_left hi] at h1
      rw [List.getElem?_append_right hj] at h2
      have hj0 : j - vals.length = 0 := by
        have := (List.getElem?_eq_some_iff.1 h2).1
        simp at this
        omega
      rw [hj0] at h2
      cases h2
      exact (hold i u h1).imp id And.left
    · rw [List.getElem?_append_right hi] at h1
      rw [List.getElem?_append_left hj] at h2
      have hi0 : i - vals.length = 0 := by
        have := (List.getElem?_eq_some_iff.1 h1).1
        simp at this
        omega
      rw [hi0] at h1
      cases h1
      rcases hold j u' h2 with hn | hn
      · cases hv : v.ownBlock with
        | none => exact .inl rfl
        | some k => right; rw [hn]; simp
      · exact .inr hn.2
    · have e1 := (List.getElem?_eq_some_iff.1 h1).1
      have e2 := (List.getElem?_eq_some_iff.1 h2).1
      simp at e1 e2
      omega

/-- One row turned (a store; an append). -/
theorem Rz.turn {i : Nat} {v v' : Value} {r' : List Int} (h : Rz w base vals ls) (hv : vals[i]? = some v) (hg : w.grownBy w' v.ownBlock) (ho : w'.ownsRow base 3 1 v' r'.length (ints r')) (hat : v'.ownBlock = v.ownBlock ∨ v'.ownBlock = some w.heap.size) : Rz w' base (vals.set i v') (ls.set i r') := by
  have hi : i < vals.length := (List.getElem?_eq_some_iff.1 hv).1
  have hil : i < ls.length := by rw [← h.ln]; exact hi
  refine ⟨by simp [h.ln], fun j u r h1 h2 => ?_, fun j k u u' hne h1 h2 => ?_⟩
  · by_cases hji : j = i
    · subst hji
      rw [List.getElem?_set_self hi] at h1
      rw [List.getElem?_set_self hil] at h2
      cases h1
      cases h2
      exact ho
    · rw [List.getElem?_set_ne (Ne.symm hji)] at h1 h2
      exact (h.own j u r h1 h2).kept hg (h.apart j i u v hji h1 hv)
  · have key : ∀ (j : Nat) (u : Value), j ≠ i → vals[j]? = some u → (u.ownBlock = none ∨ u.ownBlock ≠ v'.ownBlock) ∧ (v'.ownBlock = none ∨ v'.ownBlock ≠ u.ownBlock) := by
      intro j u hj hu
      have hjl : j < ls.length := by rw [← h.ln]; exact (List.getElem?_eq_some_iff.1 hu).1
      have ho2 := h.own j u _ hu (List.getElem?_eq_getElem hjl)
      rcases hat with hat | hat
      · rw [hat]
        exact ⟨h.apart j i u v hj hu hv, h.apart i j v u (Ne.symm hj) hv hu⟩
      · rw [hat]
        have hlt : ∀ m, u.ownBlock = some m → m < w.heap.size := fun m hm => (ho2.lt m hm).2
        refine ⟨?_, ?_⟩
        · cases hu' : u.ownBlock with
          | none => exact .inl rfl
          | some m => right; intro he; cases he; have := hlt _ hu'; omega
        · right
          intro he
          have := hlt _ he.symm
          omega
    by_cases hji : j = i
    · subst hji
      rw [List.getElem?_set_self hi] at h1
      cases h1
      rw [List.getElem?_set_ne hne] at h2
      exact (key k u' (Ne.symm hne) h2).2
    · rw [List.getElem?_set_ne (Ne.symm hji)] at h1
      by_cases hki : k = i
      · subst hki
        rw [List.getElem?_set_self hi] at h2
        cases h2
        exact (key j u hji h1).1
      · rw [List.getElem?_set_ne (Ne.symm hki)] at h2
        exact h.apart j k u u' hne h1 h2

/-- Another type's row turned. -/
theorem Rz.other {b n s : Nat} {T : TypeId} {v : Value} {xs : List Value} (h : Rz w base vals ls) (ho : w.ownsRow b T s v n xs) (hne : 3 ≠ T) (hg : w.grownBy w' v.ownBlock) : Rz w' base vals ls :=
  ⟨h.ln, fun i u r h1 h2 => (h.own i u r h1 h2).kept hg (own_types (h.own i u r h1 h2) ho hne), h.apart⟩

/-- Two rows of another type, when one of these is turned. -/
theorem Two.other {w0 : World} {T1 T2 : TypeId} {s1 s2 n1 n2 : Nat} {v1 v2 : Value} {x1 x2 : List Value} {b s n : Nat} {v : Value} {xs : List Value} (h : Two w0 T1 s1 v1 n1 x1 T2 s2 v2 n2 x2 w) (ho : w.ownsRow b 3 s v n xs) (hb : w0.heap.size ≤ b) (hn1 : T1 ≠ 3) (hn2 : T2 ≠ 3) (hg : w.grownBy w' v.ownBlock) :
    Two w0 T1 s1 v1 n1 x1 T2 s2 v2 n2 x2 w' :=
  ⟨h.r1.kept hg (own_types h.r1 ho hn1), h.r2.kept hg (own_types h.r2 ho hn2), h.ne, h.b.grown hg h.b.size fun k hk => Nat.le_trans hb (ho.lt k hk).1⟩
theorem One.other {w0 : World} {T1 : TypeId} {s1 n1 : Nat} {v1 : Value} {x1 : List Value} {b s n : Nat} {v : Value} {xs : List Value} (h : One w0 T1 s1 v1 n1 x1 w) (ho : w.ownsRow b 3 s v n xs) (hb : w0.heap.size ≤ b) (hn1 : T1 ≠ 3) (hg : w.grownBy w' v.ownBlock) : One w0 T1 s1 v1 n1 x1 w' :=
  ⟨h.r.kept hg (own_types h.r ho hn1), h.b.grown hg h.b.size fun k hk => Nat.le_trans hb (ho.lt k hk).1⟩

/-- The cells of row i. -/
theorem Rz.rd (h : Rz w base vals ls) {i : Nat} {v : Value} {r : List Int} (h1 : vals[i]? = some v) (h2 : ls[i]? = some r) : ∃ A c, v = .slice A r.length c ∧ RdI w A r := by
  have ho := h.own i v r h1 h2
  obtain ⟨A, c, rfl⟩ := own_slice ho
  exact ⟨A, c, rfl, (RdI.of_own ho).1⟩
end

/-- Of: its rows, each its own. -/
theorem of_own_rows (w : World) (Av Aa : Option Addr) (cv ca : Nat) (l : List Int) (arcs : List (Int × Int)) (hv : RdI w Av l) (ha : RdA w Aa arcs) (hn : l.length ≤ 999999) (hm : arcs.length ≤ 1000000)
    (k code : Nat) (ls : List (List Int)) (hR : ofS l arcs (sorted l) k = some (code, ls)) (hz : code ≠ 0 → ls = []) :
    Calls Try.prog 10 #[.slice Av l.length cv, .slice Aa arcs.length ca] w fun e w' => ∃ A c vals, e = .returned (.tuple #[.slice A ls.length c, .int .i64 (code : Int)]) ∧ RdV w' (.slice A ls.length c) ls.length 1 vals ∧ Rz w' w.heap.size vals ls ∧ Below w.heap.size w w' := by
  refine (of_calls w Av Aa cv ca _ _ l arcs ls hv ha (by omega) hm hR).mono ?_
  rintro e w' ⟨hb, h1, h2⟩
  by_cases hc : code = 0
  · obtain ⟨bo, vals, he, _, hrows⟩ := h2 hc
    subst hc
    refine ⟨_, _, vals, he, ⟨by rw [hrows.lv, Nat.mul_one], fun u hu => ?_, .inr ⟨_, _, rfl, fun j u hu => ?_⟩⟩, Rz.of_rows hrows, hb⟩
    · obtain ⟨i, hi, rfl⟩ := List.getElem_of_mem hu
      have hil : i < ls.length := by rw [← hrows.lo.symm.trans rfl, ← hrows.lv]; exact hi
      obtain ⟨A, c, he⟩ := own_slice (hrows.own i _ _ (List.getElem?_eq_getElem hi) (List.getElem?_eq_getElem hil))
      rw [he]
      rfl
    · rw [add_plain]
      simpa using hrows.hat.cell j hu
  · rw [hz hc]
    exact ⟨none, 0, [], h1 hc, ⟨rfl, by simp, .inl ⟨rfl, rfl⟩⟩, Rz.nil, hb⟩

/-- Order: its row, its own. -/
theorem order_own_row (w : World) (Av Aa : Option Addr) (cv ca : Nat) (l : List Int) (arcs : List (Int × Int)) (hv : RdI w Av l) (ha : RdA w Aa arcs) (hn : l.length ≤ 999999) (hm : arcs.length ≤ 1000000)
    (k code : Nat) (ts : List Int) (hR : orderS l arcs (sorted l) k = some (code, ts)) (hz : code ≠ 0 → ts = []) :
    Calls Try.prog 11 #[.slice Av l.length cv, .slice Aa arcs.length ca] w fun e w' => ∃ A c, e = .returned (.tuple #[.slice A ts.length c, .int .i64 (code : Int)]) ∧ w'.ownsRow w.heap.size 3 1 (.slice A ts.length c) ts.length (ints ts) ∧ Below w.heap.size w w' := by
  refine (order_calls w Av Aa cv ca _ _ l arcs ts hv ha (by omega) hm hR).mono ?_
  rintro e w' ⟨hb, h1, h2⟩
  by_cases hc : code = 0
  · obtain ⟨v, he, ho⟩ := h2 hc
    obtain ⟨A, c, rfl⟩ := own_slice ho
    subst hc
    exact ⟨A, c, he, ho, hb⟩
  · rw [hz hc]
    exact ⟨none, 0, h1 hc, World.ownsRow_nil _ _ _ _, hb⟩

/-- Rows below i are marked. -/
structure Mk (N i : Nat) (cur : List (List Int)) : Prop where
  len : cur.length = N
  old : ∀ (j : Nat) (r : List Int), j < i → cur[j]? = some r → ∀ x ∈ r, x = -1000 - (j : Int)
  small : ∀ r ∈ cur, r.length ≤ 60
/-- Amid row i: the first k of its n are marked. -/
structure MkR (N i n k : Nat) (cur : List (List Int)) : Prop where
  m : Mk N i cur
  row : ∃ r, cur[i]? = some r ∧ r.length = n ∧ ∀ (t : Nat) (x : Int), t < k → r[t]? = some x → x = -1000 - (i : Int)
theorem Mk.start {N i : Nat} {cur : List (List Int)} {r : List Int} (h : Mk N i cur) (hr : cur[i]? = some r) : MkR N i r.length 0 cur := ⟨h, r, hr, rfl, fun t x ht => by omega⟩
theorem MkR.stop {N i n : Nat} {cur : List (List Int)} (h : MkR N i n n cur) : Mk N (i + 1) cur := by
  refine ⟨h.m.len, fun j r hj hr x hx => ?_, h.m.small⟩
  rcases Nat.lt_or_ge j i with hji | hji
  · exact h.m.old j r hji hr x hx
  · obtain rfl : j = i := by omega
    obtain ⟨r', h1, h2, h3⟩ := h.row
    rw [hr] at h1
    cases h1
    obtain ⟨t, ht, rfl⟩ := List.getElem_of_mem hx
    exact h3 t _ (by omega) (List.getElem?_eq_getElem ht)
theorem MkR.set {N i n k : Nat} {cur : List (List Int)} {r : List Int} (h : MkR N i n k cur) (hr : cur[i]? = some r) (hk : k < n) : MkR N i n (k + 1) (cur.set i (r.set k (-1000 - (i : Int)))) := by
  have hi : i < cur.length := (List.getElem?_eq_some_iff.1 hr).1
  obtain ⟨r', h1, h2, h3⟩ := h.row
  rw [hr] at h1
  cases h1
  refine ⟨⟨by rw [List.length_set]; exact h.m.len, fun j s hj hs => ?_, fun s hs => ?_⟩, _, List.getElem?_set_self hi, by rw [List.length_set]; exact h2, fun t x ht hx => ?_⟩
  · rw [List.getElem?_set_ne (by omega)] at hs
    exact h.m.old j s hj hs
  · rcases List.mem_or_eq_of_mem_set hs with h4 | rfl
    · exact h.m.small s h4
    · rw [List.length_set]
      exact h.m.small r (List.mem_of_getElem? hr)
  · by_cases htk : t = k
    · subst htk
      rw [List.getElem?_set_self (by omega)] at hx
      cases hx
      rfl
    · rw [List.getElem?_set_ne (Ne.symm htk)] at hx
      exact h3 t x (by omega) hx

/-- The rows below i, grown; the others as they were. -/
def grows (rows : List (List Int)) (i : Nat) : List (List Int) := (List.range i).map fun j => rows.getD j [] ++ List.replicate 20 (1000 + (j : Int))
theorem grows_length (rows : List (List Int)) (i : Nat) : (grows rows i).length = i := by simp [grows]
theorem grows_succ (rows : List (List Int)) (i : Nat) : grows rows (i + 1) = grows rows i ++ [rows.getD i [] ++ List.replicate 20 (1000 + (i : Int))] := by simp [grows, List.range_succ]
theorem grows_at (rows : List (List Int)) {i j : Nat} (h : j < i) : (grows rows i)[j]? = some (rows.getD j [] ++ List.replicate 20 (1000 + (j : Int))) := by
  unfold grows
  rw [List.getElem?_map, List.getElem?_range h]
  rfl
theorem mid_at {α : Type} {a b : List α} {i : Nat} (ha : a.length = i) : (a ++ b.drop i)[i]? = b[i]? := by
  rw [List.getElem?_append_right (by omega), List.getElem?_drop]
  congr 1
  omega
theorem mid_set {α : Type} {a b : List α} {i : Nat} {x : α} (ha : a.length = i) (hb : i < b.length) : (a ++ b.drop i).set i x = (a ++ [x]) ++ b.drop (i + 1) := by
  rw [List.set_append, if_neg (by omega), ha, Nat.sub_self, List.drop_eq_getElem_cons hb, List.set_cons_zero, List.append_assoc]
  rfl
theorem set_same {α : Type} {a : List α} {i : Nat} {x : α} (h : a[i]? = some x) : a.set i x = a := by
  obtain ⟨hi, rfl⟩ := List.getElem?_eq_some_iff.1 h
  exact List.set_getElem_self hi

end Go.Proofs.Ythlmffjafeodlaa.Lw
