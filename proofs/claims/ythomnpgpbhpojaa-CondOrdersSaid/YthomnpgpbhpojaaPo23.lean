/- Rows of numbers that lie apart, each its own; a list of their slices beside them. -/
import Derived.Test.YthomnpgpbhpojaaPo22
namespace Go.Proofs.Ythomnpgpbhpojaa.Lw
open Go Go.RowKit Go.Proofs.Ythomnpgpbhpojaa.Mem Go.Proofs.Ythomnpgpbhpojaa.Sl Go.Proofs.Ythomnpgpbhpojaa.Scc Go.Proofs.Ythomnpgpbhpojaa.Tj Go.Proofs.YthomnpgpbhpojaaW.PrintWords Go.Proofs.YthomnpgpbhpojaaW.PrintLast
set_option linter.unusedSimpArgs false
set_option linter.unusedVariables false

structure Rz (w : World) (base : Nat) (vals : List Value) (ls : List (List Int)) : Prop where
  ln : vals.length = ls.length
  own : ∀ (i : Nat) (v : Value) (r : List Int), vals[i]? = some v → ls[i]? = some r → w.ownsRow base 3 1 v r.length (ints r)
  apart : ∀ (i j : Nat) (v u : Value), i ≠ j → vals[i]? = some v → vals[j]? = some u → v.ownBlock = none ∨ v.ownBlock ≠ u.ownBlock

theorem own_types {w : World} {b1 b2 : Nat} {e1 e2 : TypeId} {s1 s2 n1 n2 : Nat} {v1 v2 : Value} {x1 x2 : List Value} (h1 : w.ownsRow b1 e1 s1 v1 n1 x1) (h2 : w.ownsRow b2 e2 s2 v2 n2 x2) (hne : e1 ≠ e2) : v1.ownBlock = none ∨ v1.ownBlock ≠ v2.ownBlock := by
  rcases h1.2 with ⟨rfl, _⟩ | ⟨g, cap, cur, rfl, _, hg, _⟩
  · exact .inl rfl
  · right
    intro he
    rcases h2.2 with ⟨rfl, _⟩ | ⟨g2, cap2, cur2, rfl, _, hg2, _⟩
    · simp [Value.ownBlock] at he
    · simp only [Value.ownBlock, Option.some.injEq] at he
      subst he
      rw [hg] at hg2
      cases hg2
      exact hne rfl

section
variable {w w' : World} {base : Nat} {vals : List Value} {ls : List (List Int)}
theorem Rz.below (h : Rz w base vals ls) (hb : Below w.heap.size w w') : Rz w' base vals ls := ⟨h.ln, fun i v r h1 h2 => own_below (h.own i v r h1 h2) hb, h.apart⟩
theorem Rz.mono {base' : Nat} (h : Rz w base vals ls) (hb : base' ≤ base) : Rz w base' vals ls := ⟨h.ln, fun i v r h1 h2 => own_mono (h.own i v r h1 h2) hb, h.apart⟩
theorem Rz.of_rows {bo n : Nat} (h : RwsI w base bo n vals ls) : Rz w base vals ls := ⟨h.lv.trans h.lo.symm, h.own, h.apart⟩
theorem Rz.nil : Rz w base [] [] := ⟨rfl, fun i v r h => by simp at h, fun i j v u _ h => by simp at h⟩

theorem Rz.snoc {B : Nat} {v : Value} {r : List Int} (h : Rz w base vals ls) (hb : Below w.heap.size w w') (hB : w.heap.size ≤ B) (hbase : base ≤ w.heap.size) (ho : w'.ownsRow B 3 1 v r.length (ints r)) : Rz w' base (vals ++ [v]) (ls ++ [r]) := by
  have h' := h.below hb
  have hold : ∀ (i : Nat) (u : Value), vals[i]? = some u → u.ownBlock = none ∨ (u.ownBlock ≠ v.ownBlock ∧ v.ownBlock ≠ u.ownBlock) := by
    intro i u hu
    cases hk : u.ownBlock with
    | none => exact .inl rfl
    | some k =>
      right
      have hi : i < ls.length := by rw [← h.ln]; exact (List.getElem?_eq_some_iff.1 hu).1
      have := ((h.own i u _ hu (List.getElem?_eq_getElem hi)).lt k hk).2
      constructor <;> intro he
      · have := (ho.lt k he.symm).1; omega
      · have := (ho.lt k he).1; omega
  refine ⟨by simp [h.ln], fun i u r' h1 h2 => ?_, fun i j u u' hne h1 h2 => ?_⟩
  · rcases Nat.lt_or_ge i vals.length with hi | hi
    · rw [List.getElem?_append_left hi] at h1
      rw [List.getElem?_append_left (by rw [← h.ln]; exact hi)] at h2
      exact h'.own i u r' h1 h2
    · rw [List.getElem?_append_right hi] at h1
      rw [List.getElem?_append_right (by rw [← h.ln]; exact hi), ← h.ln] at h2
      have hi0 : i - vals.length = 0 := by
        have := (List.getElem?_eq_some_iff.1 h1).1
        simp at this
        omega
      rw [hi0] at h1 h2
      cases h1
      cases h2
      exact own_mono ho (by omega)
  · rcases Nat.lt_or_ge i vals.length with hi | hi <;> rcases Nat.lt_or_ge j vals.length with hj | hj
    · rw [List.getElem?_append_left hi] at h1
      rw [List.getElem?_append_left hj] at h2
      exact h.apart i j u u' hne h1 h2
    · rw [List.getElem?_append_left hi] at h1
      rw [List.getElem?_append_right hj] at h2
      have hj0 : j - vals.length = 0 := by
        have := (List.getElem?_eq_some_iff.1 h2).1
        simp at this
        omega
      rw [hj0] at h2
      cases h2
      exact (hold i u h1).imp id And.left
    · rw [List.getElem?_append_right hi] at h1
      rw [List.getElem?_append_left hj] at h2
      have hi0 : i - vals.length = 0 := by
        have := (List.getElem?_eq_some_iff.1 h1).1
        simp at this
        omega
      rw [hi0] at h1
      cases h1
      rcases hold j u' h2 with hn | hn
      · cases hv : v.ownBlock with
        | none => exact .inl rfl
        | some k => right; rw [hn]; simp
      · exact .inr hn.2
    · have e1 := (List.getElem?_eq_some_iff.1 h1).1
      have e2 := (List.getElem?_eq_some_iff.1 h2).1
      simp at e1 e2
      omega

theorem Rz.turn {i : Nat} {v v' : Value} {r' : List Int} (h : Rz w base vals ls) (hv : vals[i]? = some v) (hg : w.grownBy w' v.ownBlock) (ho : w'.ownsRow base 3 1 v' r'.length (ints r')) (hat : v'.ownBlock = v.ownBlock ∨ v'.ownBlock = some w.heap.size) : Rz w' base (vals.set i v') (ls.set i r') := by
  have hi : i < vals.length := (List.getElem?_eq_some_iff.1 hv).1
  have hil : i < ls.length := by rw [← h.ln]; exact hi
  refine ⟨by simp [h.ln], fun j u r h1 h2 => ?_, fun j k u u' hne h1 h2 => ?_⟩
  · by_cases hji : j = i
    · subst hji
      rw [List.getElem?_set_self hi] at h1
      rw [List.getElem?_set_self hil] at h2
      cases h1
      cases h2
      exact ho
    · rw [List.getElem?_set_ne (Ne.symm hji)] at h1 h2
      exact (h.own j u r h1 h2).kept hg (h.apart j i u v hji h1 hv)
  · have key : ∀ (j : Nat) (u : Value), j ≠ i → vals[j]? = some u → (u.ownBlock = none ∨ u.ownBlock ≠ v'.ownBlock) ∧ (v'.ownBlock = none ∨ v'.ownBlock ≠ u.ownBlock) := by
      intro j u hj hu
      have hjl : j < ls.length := by rw [← h.ln]; exact (List.getElem?_eq_some_iff.1 hu).1
      have ho2 := h.own j u _ hu (List.getElem?_eq_getElem hjl)
      rcases hat with hat | hat
      · rw [hat]
        exact ⟨h.apart j i u v hj hu hv, h.apart i j v u (Ne.symm hj) hv hu⟩
      · rw [hat]
        have hlt : ∀ m, u.ownBlock = some m → m < w.heap.size := fun m hm => (ho2.lt m hm).2
        refine ⟨?_, ?_⟩
        · cases hu' : u.ownBlock with
          | none => exact .inl rfl
          | some m => right; intro he; cases he; have := hlt _ hu'; omega
        · right
          intro he
          have := hlt _ he.symm
          omega
    by_cases hji : j = i
    · subst hji
      rw [List.getElem?_set_self hi] at h1
      cases h1
      rw [List.getElem?_set_ne hne] at h2
      exact (key k u' (Ne.symm hne) h2).2
    · rw [List.getElem?_set_ne (Ne.symm hji)] at h1
      by_cases hki : k = i
      · subst hki
        rw [List.getElem?_set_self hi] at h2
        cases h2
        exact (key j u hji h1).1
      · rw [List.getElem?_set_ne (Ne.symm hki)] at h2
        exact h.apart j k u u' hne h1 h2

theorem Rz.other {b n s : Nat} {T : TypeId} {v : Value} {xs : List Value} (h : Rz w base vals ls) (ho : w.ownsRow b T s v n xs) (hne : 3 ≠ T) (hg : w.grownBy w' v.ownBlock) : Rz w' base vals ls :=
  ⟨h.ln, fun i u r h1 h2 => (h.own i u r h1 h2).kept hg (own_types (h.own i u r h1 h2) ho hne), h.apart⟩

theorem Two.other {w0 : World} {T1 T2 : TypeId} {s1 s2 n1 n2 : Nat} {v1 v2 : Value} {x1 x2 : List Value} {b s n : Nat} {v : Value} {xs : List Value} (h : Two w0 T1 s1 v1 n1 x1 T2 s2 v2 n2 x2 w) (ho : w.ownsRow b 3 s v n xs) (hb : w0.heap.size ≤ b) (hn1 : T1 ≠ 3) (hn2 : T2 ≠ 3) (hg : w.grownBy w' v.ownBlock) :
    Two w0 T1 s1 v1 n1 x1 T2 s2 v2 n2 x2 w' :=
  ⟨h.r1.kept hg (own_types h.r1 ho hn1), h.r2.kept hg (own_types h.r2 ho hn2), h.ne, h.b.grown hg h.b.size fun k hk => Nat.le_trans hb (ho.lt k hk).1⟩
theorem One.other {w0 : World} {T1 : TypeId} {s1 n1 : Nat} {v1 : Value} {x1 : List Value} {b s n : Nat} {v : Value} {xs : List Value} (h : One w0 T1 s1 v1 n1 x1 w) (ho : w.ownsRow b 3 s v n xs) (hb : w0.heap.size ≤ b) (hn1 : T1 ≠ 3) (hg : w.grownBy w' v.ownBlock) : One w0 T1 s1 v1 n1 x1 w' :=
  ⟨h.r.kept hg (own_types h.r ho hn1), h.b.grown hg h.b.size fun k hk => Nat.le_trans hb (ho.lt k hk).1⟩

theorem Rz.rd (h : Rz w base vals ls) {i : Nat} {v : Value} {r : List Int} (h1 : vals[i]? = some v) (h2 : ls[i]? = some r) : ∃ A c, v = .slice A r.length c ∧ RdI w A r := by
  have ho := h.own i v r h1 h2
  obtain ⟨A, c, rfl⟩ := own_slice ho
  exact ⟨A, c, rfl, (RdI.of_own ho).1⟩
end

structure Mk (N i : Nat) (cur : List (List Int)) : Prop where
  len : cur.length = N
  old : ∀ (j : Nat) (r : List Int), j < i → cur[j]? = some r → ∀ x ∈ r, x = -1000 - (j : Int)
  small : ∀ r ∈ cur, r.length ≤ 60
structure MkR (N i n k : Nat) (cur : List (List Int)) : Prop where
  m : Mk N i cur
  row : ∃ r, cur[i]? = some r ∧ r.length = n ∧ ∀ (t : Nat) (x : Int), t < k → r[t]? = some x → x = -1000 - (i : Int)
theorem Mk.start {N i : Nat} {cur : List (List Int)} {r : List Int} (h : Mk N i cur) (hr : cur[i]? = some r) : MkR N i r.length 0 cur := ⟨h, r, hr, rfl, fun t x ht => by omega⟩
theorem MkR.set {N i n k : Nat} {cur : List (List Int)} {r : List Int} (h : MkR N i n k cur) (hr : cur[i]? = some r) (hk : k < n) : MkR N i n (k + 1) (cur.set i (r.set k (-1000 - (i : Int)))) := by
  have hi : i < cur.length := (List.getElem?_eq_some_iff.1 hr).1
  obtain ⟨r', h1, h2, h3⟩ := h.row
  rw [hr] at h1
  cases h1
  refine ⟨⟨by rw [List.length_set]; exact h.m.len, fun j s hj hs => ?_, fun s hs => ?_⟩, _, List.getElem?_set_self hi, by rw [List.length_set]; exact h2, fun t x ht hx => ?_⟩
  · rw [List.getElem?_set_ne (by omega)] at hs
    exact h.m.old j s hj hs
  · rcases List.mem_or_eq_of_mem_set hs with h4 | rfl
    · exact h.m.small s h4
    · rw [List.length_set]
      exact h.m.small r (List.mem_of_getElem? hr)
  · by_cases htk : t = k
    · subst htk
      rw [List.getElem?_set_self (by omega)] at hx
      cases hx
      rfl
    · rw [List.getElem?_set_ne (Ne.symm htk)] at hx
      exact h3 t x (by omega) hx

end Go.Proofs.Ythomnpgpbhpojaa.Lw

/- Rows that are read while others are written; groups joined. -/
namespace Go.Proofs.Ythomnpgpbhpojaa.Cd
open Go Go.RowKit Go.MapKept Go.Proofs.Ythomnpgpbhpojaa.Mem Go.Proofs.Ythomnpgpbhpojaa.Sl Go.Proofs.Ythomnpgpbhpojaa.Tj Go.Proofs.Ythomnpgpbhpojaa.Scc Go.Proofs.Ythomnpgpbhpojaa.Lw Go.Proofs.Ythomnpgpbhpojaa.Pt
set_option linter.unusedVariables false

section
variable {w w' W W' : World} {cls : Int → Option Nat}
theorem rd_kpt {p : Nat → Prop} {A : Option Addr} {l : List Int} (h : RdI w A l) (hk : Kpt p w W) (hp : ∀ b, A = some ⟨b, 0, none⟩ → ¬ p b) : RdI W A l := fun j x hx => by
  obtain ⟨b, h1, h2⟩ := h j x hx
  exact ⟨b, h1, (World.cell?_of_block (w := w) (hk.block b (World.block_lt_of_cell? _ _ h2) (hp b h1))).trans h2⟩
theorem rdA_kpt {p : Nat → Prop} {A : Option Addr} {l : List (Int × Int)} (h : RdA w A l) (hk : Kpt p w W) (hp : ∀ b, A = some ⟨b, 0, none⟩ → ¬ p b) : RdA W A l := fun j x y hx => by
  obtain ⟨b, h1, h2, h3⟩ := h j x y hx
  exact ⟨b, h1, (World.cell?_of_block (w := w) (hk.block b (World.block_lt_of_cell? _ _ h2) (hp b h1))).trans h2, (World.cell?_of_block (w := w) (hk.block b (World.block_lt_of_cell? _ _ h3) (hp b h1))).trans h3⟩
def RdQ (q : Nat → Prop) (w : World) (bo : Nat) (ls : List (List Int)) : Prop := q bo ∧ ∀ (i : Nat) (r : List Int), ls[i]? = some r → ∃ B c, w.cell? ⟨bo, i, none⟩ = some (.slice B r.length c) ∧ RdI w B r ∧ (∀ b, B = some ⟨b, 0, none⟩ → q b) ∧ r.length ≤ c
theorem RdQ.kept {p q : Nat → Prop} {bo : Nat} {ls : List (List Int)} (h : RdQ q w bo ls) (hk : Kpt p w W) (hp : ∀ k, p k → ¬ q k) : RdQ q W bo ls :=
  ⟨h.1, fun i r hr => by
    obtain ⟨B, c, h1, h2, h3, h4⟩ := h.2 i r hr
    exact ⟨B, c, (World.cell?_of_block (w := w) (hk.block bo (World.block_lt_of_cell? _ _ h1) fun e => hp _ e h.1)).trans h1, rd_kpt h2 hk fun b e e2 => hp _ e2 (h3 b e), h3, h4⟩⟩
theorem RdQ.of_rows {base bo n : Nat} {vals : List Value} {ls : List (List Int)} (h : RwsI w base bo n vals ls) (hb : base ≤ bo) : RdQ (fun k => base ≤ k ∧ k < w.heap.size) w bo ls :=
  ⟨⟨hb, h.hat.lt⟩, fun i r hr => by
    have hi : i < ls.length := (List.getElem?_eq_some_iff.1 hr).1
    have hiv : i < vals.length := by rw [h.lv, ← h.lo]; exact hi
    have hv : vals[i]? = some vals[i] := List.getElem?_eq_getElem hiv
    have ho := h.own i _ r hv hr
    obtain ⟨A, c, he⟩ := Lw.own_slice ho
    rw [he] at ho
    refine ⟨A, c, he ▸ h.hat.cell i hv, (RdI.of_own ho).1, fun b e => ?_, ?_⟩
    · subst e
      exact ho.lt b rfl
    · rcases ho.2 with ⟨h1, h2⟩ | ⟨g', cap', cur, h', _, _, hn, _⟩
      · omega
      · cases h'
        exact hn⟩
def GJ (cB c : Int → Option Nat) (G : List (List Int)) : Prop :=
  (∀ x, c x = none ↔ cB x = none) ∧ ∀ x y, cB x ≠ none → cB y ≠ none → (c x = c y ↔ cB x = cB y ∨ ∃ g ∈ G, x ∈ g ∧ y ∈ g)
theorem GJ.nil (cB : Int → Option Nat) : GJ cB cB [] := ⟨fun _ => Iff.rfl, fun x y _ _ => by simp⟩
theorem GJ.one {cB c : Int → Option Nat} {G : List (List Int)} (h : GJ cB c G) (x : Int) : GJ cB c (G ++ [[x]]) := ⟨h.1, fun a b ha hb => by
  rw [h.2 a b ha hb]
  constructor
  · rintro (e | ⟨g, hg, e⟩)
    · exact .inl e
    · exact .inr ⟨g, List.mem_append_left _ hg, e⟩
  · rintro (e | ⟨g, hg, e1, e2⟩)
    · exact .inl e
    · rcases List.mem_append.1 hg with hg | hg
      · exact .inr ⟨g, hg, e1, e2⟩
      · obtain rfl : g = [x] := by simpa using hg
        rw [List.mem_singleton] at e1 e2
        subst e1 e2
        exact .inl rfl⟩
theorem GJ.step {cB c c' : Int → Option Nat} {P : List (List Int)} {q : List Int} {x l0 : Int} (h : GJ cB c (P ++ [q])) (hJ : Joined c c' ([l0] ++ [x])) (h0 : l0 ∈ q) (hqP : ∀ z ∈ q, ∀ g ∈ P, z ∉ g) (hxP : ∀ g ∈ P, x ∉ g) (hxq : x ∉ q)
    (hd : ∀ z ∈ q ++ [x], cB z ≠ none ∧ ∀ a, cB a = cB z → a = z) : GJ cB c' (P ++ [q ++ [x]]) := by
  have hl0 := hd l0 (by simp [h0])
  have hx := hd x (by simp)
  have hn : ∀ a, cB a ≠ none → c a ≠ none := fun a ha e => ha ((h.1 a).1 e)
  have ha0 : ∀ a, cB a ≠ none → (c a = c l0 ↔ a ∈ q) := fun a ha => by
    rw [h.2 a l0 ha hl0.1]
    constructor
    · rintro (e | ⟨g, hg, e1, e2⟩)
      · rw [hl0.2 a e]; exact h0
      · rcases List.mem_append.1 hg with hg | hg
        · exact absurd e2 (hqP l0 h0 g hg)
        · obtain rfl : g = q := by simpa using hg
          exact e1
    · intro e
      exact .inr ⟨q, by simp, e, h0⟩
  have hax : ∀ a, cB a ≠ none → (c a = c x ↔ a = x) := fun a ha => by
    rw [h.2 a x ha hx.1]
    constructor
    · rintro (e | ⟨g, hg, e1, e2⟩)
      · exact hx.2 a e
      · rcases List.mem_append.1 hg with hg | hg
        · exact absurd e2 (hxP g hg)
        · obtain rfl : g = q := by simpa using hg
          exact absurd e2 hxq
    · rintro rfl
      exact .inl rfl
  have hT : ∀ a, cB a ≠ none → ((∃ w ∈ [l0] ++ [x], c a = c w) ↔ a ∈ q ++ [x]) := fun a ha => by
    constructor
    · rintro ⟨w, hw, e⟩
      rcases List.mem_append.1 hw with hw | hw
      · obtain rfl : w = l0 := by simpa using hw
        exact List.mem_append_left _ ((ha0 a ha).1 e)
      · obtain rfl : w = x := by simpa using hw
        rw [(hax a ha).1 e]
        simp
    · intro e
      rcases List.mem_append.1 e with e | e
      · exact ⟨l0, by simp, (ha0 a ha).2 e⟩
      · obtain rfl : a = x := by simpa using e
        exact ⟨a, by simp, rfl⟩
  refine ⟨fun a => (hJ.1 a).trans (h.1 a), fun a b ha hb => ?_⟩
  rw [hJ.2 a b (hn a ha) (hn b hb), hT a ha, hT b hb, h.2 a b ha hb]
  constructor
  · rintro ((e | ⟨g, hg, e1, e2⟩) | ⟨e1, e2⟩)
    · exact .inl e
    · rcases List.mem_append.1 hg with hg | hg
      · exact .inr ⟨g, List.mem_append_left _ hg, e1, e2⟩
      · obtain rfl : g = q := by simpa using hg
        exact .inr ⟨g ++ [x], by simp, List.mem_append_left _ e1, List.mem_append_left _ e2⟩
    · exact .inr ⟨q ++ [x], by simp, e1, e2⟩
  · rintro (e | ⟨g, hg, e1, e2⟩)
    · exact .inl (.inl e)
    · rcases List.mem_append.1 hg with hg | hg
      · exact .inl (.inr ⟨g, List.mem_append_left _ hg, e1, e2⟩)
      · obtain rfl : g = q ++ [x] := by simpa using hg
        exact .inr ⟨e1, e2⟩
theorem Grp.len {sl : List Int} {N : Int → Int → Prop} {ls : List (List Int)} (h : Grp sl N ls) : ls.length ≤ sl.length := by
  have hh : ∀ l ∈ ls, l.headD 0 ∈ l := fun l hl => by
    obtain ⟨a, t, rfl⟩ := List.exists_cons_of_ne_nil (h.ne l hl)
    simp
  have h1 : (ls.map fun l => l.headD 0).Nodup := by
    rw [List.Nodup, List.pairwise_map, List.pairwise_iff_getElem]
    intro i j hi hj hij e
    have hA := List.getElem_mem hi
    have hB := List.getElem_mem hj
    have := h.dj i j _ _ ((ls[i]).headD 0) (List.getElem?_eq_getElem hi) (List.getElem?_eq_getElem hj) (hh _ hA) (e ▸ hh _ hB)
    omega
  have := nodup_le h1 (m := sl) fun x hx => by
    obtain ⟨l, hl, rfl⟩ := List.mem_map.1 hx
    exact (h.al _).2 ⟨l, hl, hh l hl⟩
  simpa using this
theorem Grp.row {sl : List Int} {N : Int → Int → Prop} {ls : List (List Int)} (h : Grp sl N ls) {l : List Int} (hl : l ∈ ls) : l.length ≤ sl.length :=
  nodup_le ((h.up l hl).imp fun h => by omega) fun x hx => (h.al x).2 ⟨l, hl, hx⟩
def PartP (arcs : Int → Option (Int × Int)) (cls cls' : Int → Option Nat) (vs : List Int) : Prop :=
  (∀ x, cls' x = none ↔ cls x = none) ∧ ∀ x y, cls x ≠ none → cls y ≠ none → (cls' x = cls' y ↔ (x ∉ vs ∧ y ∉ vs ∧ cls x = cls y) ∨ (x ∈ vs ∧ y ∈ vs ∧ Cl (fun a b => a ∈ vs ∧ cls a = cls b ∧ ∃ e, arcs e = some (a, b)) x y ∧ Cl (fun a b => a ∈ vs ∧ cls a = cls b ∧ ∃ e, arcs e = some (a, b)) y x))
theorem part_plain {arcs : Int → Option (Int × Int)} {cB c : Int → Option Nat} {vs sl : List Int} {AL : List (Int × Int)} {ls : List (List Int)} (hsl : ∀ x, x ∈ sl ↔ x ∈ vs) (hG : ∀ x y, (x, y) ∈ AL ↔ x ∈ vs ∧ cls x = cls y ∧ ∃ e, arcs e = some (x, y)) (hgrp : Grp sl (fun a b => (a, b) ∈ AL) ls)
    (hBn : ∀ x, cB x = none ↔ cls x = none) (hdis : ∀ z ∈ vs, cB z ≠ none ∧ ∀ a, cB a = cB z → a = z) (hels : ∀ x, x ∉ vs → cB x = cls x) (hJ : GJ cB c ls) : PartP arcs cls c vs := by
  have hN : (fun a b => (a, b) ∈ AL) = fun a b => a ∈ vs ∧ cls a = cls b ∧ ∃ e, arcs e = some (a, b) := by
    funext a b
    exact propext (hG a b)
  rw [hN] at hgrp
  refine ⟨fun x => (hJ.1 x).trans (hBn x), fun x y hx hy => ?_⟩
  rw [hJ.2 x y (fun e => hx ((hBn x).1 e)) (fun e => hy ((hBn y).1 e))]
  constructor
  · rintro (e | ⟨g, hg, h1, h2⟩)
    · by_cases hxv : x ∈ vs
      · obtain rfl := (hdis x hxv).2 y e.symm
        exact .inr ⟨hxv, hxv, .base, .base⟩
      · by_cases hyv : y ∈ vs
        · obtain rfl := (hdis y hyv).2 x e
          exact absurd hyv hxv
        · exact .inl ⟨hxv, hyv, by rw [← hels x hxv, ← hels y hyv, e]⟩
    · have hyx := (hgrp.cl g hg x h1 y).1 h2
      exact .inr ⟨(hsl x).1 ((hgrp.al x).2 ⟨g, hg, h1⟩), (hsl y).1 hyx.1, hyx.2⟩
  · rintro (⟨h1, h2, h3⟩ | ⟨h1, h2, h3⟩)
    · exact .inl (by rw [hels x h1, hels y h2, h3])
    · obtain ⟨g, hg, hxg⟩ := (hgrp.al x).1 ((hsl x).2 h1)
      exact .inr ⟨g, hg, hxg, (hgrp.cl g hg x hxg y).2 ⟨(hsl y).2 h2, h3⟩⟩
end
end Go.Proofs.Ythomnpgpbhpojaa.Cd
