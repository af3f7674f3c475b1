/- Rows that are read while others are written; groups joined. -/
import Derived.Test.YthomnpgpbhpojaaGd24
namespace Go.Proofs.Ythomnpgpbhpojaa.Cd
open Go Go.RowKit Go.MapKept Go.Proofs.Ythomnpgpbhpojaa.Mem Go.Proofs.Ythomnpgpbhpojaa.Sl Go.Proofs.Ythomnpgpbhpojaa.Tj Go.Proofs.Ythomnpgpbhpojaa.Scc Go.Proofs.Ythomnpgpbhpojaa.Lw Go.Proofs.Ythomnpgpbhpojaa.Pt
set_option linter.unusedVariables false

section
variable {w w' W W' : World} {cls : Int → Option Nat}
theorem rd_kpt {p : Nat → Prop} {A : Option Addr} {l : List Int} (h : RdI w A l) (hk : Kpt p w W) (hp : ∀ b, A = some ⟨b, 0, none⟩ → ¬ p b) : RdI W A l := fun j x hx => by
  obtain ⟨b, h1, h2⟩ := h j x hx
  exact ⟨b, h1, (World.cell?_of_block (w := w) (hk.block b (World.block_lt_of_cell? _ _ h2) (hp b h1))).trans h2⟩
theorem rdA_kpt {p : Nat → Prop} {A : Option Addr} {l : List (Int × Int)} (h : RdA w A l) (hk : Kpt p w W) (hp : ∀ b, A = some ⟨b, 0, none⟩ → ¬ p b) : RdA W A l := fun j x y hx => by
  obtain ⟨b, h1, h2, h3⟩ := h j x y hx
  exact ⟨b, h1, (World.cell?_of_block (w := w) (hk.block b (World.block_lt_of_cell? _ _ h2) (hp b h1))).trans h2, (World.cell?_of_block (w := w) (hk.block b (World.block_lt_of_cell? _ _ h3) (hp b h1))).trans h3⟩
def RdQ (q : Nat → Prop) (w : World) (bo : Nat) (ls : List (List Int)) : Prop := q bo ∧ ∀ (i : Nat) (r : List Int), ls[i]? = some r → ∃ B c, w.cell? ⟨bo, i, none⟩ = some (.slice B r.length c) ∧ RdI w B r ∧ (∀ b, B = some ⟨b, 0, none⟩ → q b) ∧ r.length ≤ c
theorem RdQ.kept {p q : Nat → Prop} {bo : Nat} {ls : List (List Int)} (h : RdQ q w bo ls) (hk : Kpt p w W) (hp : ∀ k, p k → ¬ q k) : RdQ q W bo ls :=
  ⟨h.1, fun i r hr => by
    obtain ⟨B, c, h1, h2, h3, h4⟩ := h.2 i r hr
    exact ⟨B, c, (World.cell?_of_block (w := w) (hk.block bo (World.block_lt_of_cell? _ _ h1) fun e => hp _ e h.1)).trans h1, rd_kpt h2 hk fun b e e2 => hp _ e2 (h3 b e), h3, h4⟩⟩
theorem RdQ.of_rows {base bo n : Nat} {vals : List Value} {ls : List (List Int)} (h : RwsI w base bo n vals ls) (hb : base ≤ bo) : RdQ (fun k => base ≤ k ∧ k < w.heap.size) w bo ls :=
  ⟨⟨hb, h.hat.lt⟩, fun i r hr => by
    have hi : i < ls.length := (List.getElem?_eq_some_iff.1 hr).1
    have hiv : i < vals.length := by rw [h.lv, ← h.lo]; exact hi
    have hv : vals[i]? = some vals[i] := List.getElem?_eq_getElem hiv
    have ho := h.own i _ r hv hr
    obtain ⟨A, c, he⟩ := Lw.own_slice ho
    rw [he] at ho
    refine ⟨A, c, he ▸ h.hat.cell i hv, (RdI.of_own ho).1, fun b e => ?_, ?_⟩
    · subst e
      exact ho.lt b rfl
    · rcases ho.2 with ⟨h1, h2⟩ | ⟨g', cap', cur, h', _, _, hn, _⟩
      · omega
      · cases h'
        exact hn⟩
def GJ (cB c : Int → Option Nat) (G : List (List Int)) : Prop :=
  (∀ x, c x = none ↔ cB x = none) ∧ ∀ x y, cB x ≠ none → cB y ≠ none → (c x = c y ↔ cB x = cB y ∨ ∃ g ∈ G, x ∈ g ∧ y ∈ g)
theorem GJ.nil (cB : Int → Option Nat) : GJ cB cB [] := ⟨fun _ => Iff.rfl, fun x y _ _ => by simp⟩
theorem GJ.one {cB c : Int → Option Nat} {G : List (List Int)} (h : GJ cB c G) (x : Int) : GJ cB c (G ++ [[x]]) := ⟨h.1, fun a b ha hb => by
  rw [h.2 a b ha hb]
  constructor
  · rintro (e | ⟨g, hg, e⟩)
    · exact .inl e
    · exact .inr ⟨g, List.mem_append_left _ hg, e⟩
  · rintro (e | ⟨g, hg, e1, e2⟩)
    · exact .inl e
    · rcases List.mem_append.1 hg with hg | hg
      · exact .inr ⟨g, hg, e1, e2⟩
      · obtain rfl : g = [x] := by simpa using hg
        rw [List.mem_singleton] at e1 e2
        subst e1 e2
        exact .inl rfl⟩
theorem GJ.step {cB c c' : Int → Option Nat} {P : List (List Int)} {q : List Int} {x l0 : Int} (h : GJ cB c (P ++ [q])) (hJ : Joined c c' ([l0] ++ [x])) (h0 : l0 ∈ q) (hqP : ∀ z ∈ q, ∀ g ∈ P, z ∉ g) (hxP : ∀ g ∈ P, x ∉ g) (hxq : x ∉ q)
    (hd : ∀ z ∈ q ++ [x], cB z ≠ none ∧ ∀ a, cB a = cB z → a = z) : GJ cB c' (P ++ [q ++ [x]]) := by
  have hl0 := hd l0 (by simp [h0])
  have hx := hd x (by simp)
  have hn : ∀ a, cB a ≠ none → c a ≠ none := fun a ha e => ha ((h.1 a).1 e)
  have ha0 : ∀ a, cB a ≠ none → (c a = c l0 ↔ a ∈ q) := fun a ha => by
    rw [h.2 a l0 ha hl0.1]
    constructor
    · rintro (e | ⟨g, hg, e1, e2⟩)
      · rw [hl0.2 a e]; exact h0
      · rcases List.mem_append.1 hg with hg | hg
        · exact absurd e2 (hqP l0 h0 g hg)
        · obtain rfl : g = q := by simpa using hg
          exact e1
    · intro e
      exact .inr ⟨q, by simp, e, h0⟩
  have hax : ∀ a, cB a ≠ none → (c a = c x ↔ a = x) := fun a ha => by
    rw [h.2 a x ha hx.1]
    constructor
    · rintro (e | ⟨g, hg, e1, e2⟩)
      · exact hx.2 a e
      · rcases List.mem_append.1 hg with hg | hg
        · exact absurd e2 (hxP g hg)
        · obtain rfl : g = q := by simpa using hg
          exact absurd e2 hxq
    · rintro rfl
      exact .inl rfl
  have hT : ∀ a, cB a ≠ none → ((∃ w ∈ [l0] ++ [x], c a = c w) ↔ a ∈ q ++ [x]) := fun a ha => by
    constructor
    · rintro ⟨w, hw, e⟩
      rcases List.mem_append.1 hw with hw | hw
      · obtain rfl : w = l0 := by simpa using hw
        exact List.mem_append_left _ ((ha0 a ha).1 e)
      · obtain rfl : w = x := by simpa using hw
        rw [(hax a ha).1 e]
        simp
    · intro e
      rcases List.mem_append.1 e with e | e
      · exact ⟨l0, by simp, (ha0 a ha).2 e⟩
      · obtain rfl : a = x := by simpa using e
        exact ⟨a, by simp, rfl⟩
  refine ⟨fun a => (hJ.1 a).trans (h.1 a), fun a b ha hb => ?_⟩
  rw [hJ.2 a b (hn a ha) (hn b hb), hT a ha, hT b hb, h.2 a b ha hb]
  constructor
  · rintro ((e | ⟨g, hg, e1, e2⟩) | ⟨e1, e2⟩)
    · exact .inl e
    · rcases List.mem_append.1 hg with hg | hg
      · exact .inr ⟨g, List.mem_append_left _ hg, e1, e2⟩
      · obtain rfl : g = q := by simpa using hg
        exact .inr ⟨g ++ [x], by simp, List.mem_append_left _ e1, List.mem_append_left _ e2⟩
    · exact .inr ⟨q ++ [x], by simp, e1, e2⟩
  · rintro (e | ⟨g, hg, e1, e2⟩)
    · exact .inl (.inl e)
    · rcases List.mem_append.1 hg with hg | hg
      · exact .inl (.inr ⟨g, List.mem_append_left _ hg, e1, e2⟩)
      · obtain rfl : g = q ++ [x] := by simpa using hg
        exact .inr ⟨e1, e2⟩
theorem Grp.len {sl : List Int} {N : Int → Int → Prop} {ls : List (List Int)} (h : Grp sl N ls) : ls.length ≤ sl.length := by
  have hh : ∀ l ∈ ls, l.headD 0 ∈ l := fun l hl => by
    obtain ⟨a, t, rfl⟩ := List.exists_cons_of_ne_nil (h.ne l hl)
    simp
  have h1 : (ls.map fun l => l.headD 0).Nodup := by
    rw [List.Nodup, List.pairwise_map, List.pairwise_iff_getElem]
    intro i j hi hj hij e
    have hA := List.getElem_mem hi
    have hB := List.getElem_mem hj
    have := h.dj i j _ _ ((ls[i]).headD 0) (List.getElem?_eq_getElem hi) (List.getElem?_eq_getElem hj) (hh _ hA) (e ▸ hh _ hB)
    omega
  have := nodup_le h1 (m := sl) fun x hx => by
    obtain ⟨l, hl, rfl⟩ := List.mem_map.1 hx
    exact (h.al _).2 ⟨l, hl, hh l hl⟩
  simpa using this
theorem Grp.row {sl : List Int} {N : Int → Int → Prop} {ls : List (List Int)} (h : Grp sl N ls) {l : List Int} (hl : l ∈ ls) : l.length ≤ sl.length :=
  nodup_le ((h.up l hl).imp fun h => by omega) fun x hx => (h.al x).2 ⟨l, hl, hx⟩
def PartP (arcs : Int → Option (Int × Int)) (cls cls' : Int → Option Nat) (vs : List Int) : Prop :=
  (∀ x, cls' x = none ↔ cls x = none) ∧ ∀ x y, cls x ≠ none → cls y ≠ none → (cls' x = cls' y ↔ (x ∉ vs ∧ y ∉ vs ∧ cls x = cls y) ∨ (x ∈ vs ∧ y ∈ vs ∧ Cl (fun a b => a ∈ vs ∧ cls a = cls b ∧ ∃ e, arcs e = some (a, b)) x y ∧ Cl (fun a b => a ∈ vs ∧ cls a = cls b ∧ ∃ e, arcs e = some (a, b)) y x))
theorem part_plain {arcs : Int → Option (Int × Int)} {cB c : Int → Option Nat} {vs sl : List Int} {AL : List (Int × Int)} {ls : List (List Int)} (hsl : ∀ x, x ∈ sl ↔ x ∈ vs) (hG : ∀ x y, (x, y) ∈ AL ↔ x ∈ vs ∧ cls x = cls y ∧ ∃ e, arcs e = some (x, y)) (hgrp : Grp sl (fun a b => (a, b) ∈ AL) ls)
    (hBn : ∀ x, cB x = none ↔ cls x = none) (hdis : ∀ z ∈ vs, cB z ≠ none ∧ ∀ a, cB a = cB z → a = z) (hels : ∀ x, x ∉ vs → cB x = cls x) (hJ : GJ cB c ls) : PartP arcs cls c vs := by
  have hN : (fun a b => (a, b) ∈ AL) = fun a b => a ∈ vs ∧ cls a = cls b ∧ ∃ e, arcs e = some (a, b) := by
    funext a b
    exact propext (hG a b)
  rw [hN] at hgrp
  refine ⟨fun x => (hJ.1 x).trans (hBn x), fun x y hx hy => ?_⟩
  rw [hJ.2 x y (fun e => hx ((hBn x).1 e)) (fun e => hy ((hBn y).1 e))]
  constructor
  · rintro (e | ⟨g, hg, h1, h2⟩)
    · by_cases hxv : x ∈ vs
      · obtain rfl := (hdis x hxv).2 y e.symm
        exact .inr ⟨hxv, hxv, .base, .base⟩
      · by_cases hyv : y ∈ vs
        · obtain rfl := (hdis y hyv).2 x e
          exact absurd hyv hxv
        · exact .inl ⟨hxv, hyv, by rw [← hels x hxv, ← hels y hyv, e]⟩
    · have hyx := (hgrp.cl g hg x h1 y).1 h2
      exact .inr ⟨(hsl x).1 ((hgrp.al x).2 ⟨g, hg, h1⟩), (hsl y).1 hyx.1, hyx.2⟩
  · rintro (⟨h1, h2, h3⟩ | ⟨h1, h2, h3⟩)
    · exact .inl (by rw [hels x h1, hels y h2, h3])
    · obtain ⟨g, hg, hxg⟩ := (hgrp.al x).1 ((hsl x).2 h1)
      exact .inr ⟨g, hg, hxg, (hgrp.cl g hg x hxg y).2 ⟨(hsl y).2 h2, h3⟩⟩
end
end Go.Proofs.Ythomnpgpbhpojaa.Cd
