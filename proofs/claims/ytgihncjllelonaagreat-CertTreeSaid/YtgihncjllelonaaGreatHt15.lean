/- tree: edges that can be read; the errors' code; a map apart from what is read. -/
import Derived.Test.YtgihncjllelonaaGreatHt13
import Derived.Test.YtgihncjllelonaaGreatHt5
import Derived.Test.YtgihncjllelonaaGreatHt12
import Derived.Test.YtgihncjllelonaaGreatHt14
namespace Go.Proofs.YtgihncjllelonaaGreat.Tb
open Go Go.RowKit Go.MapKept Go.Proofs.YtgihncjllelonaaGreat.Mem Go.Proofs.YtgihncjllelonaaGreat.Sl Go.Proofs.YtgihncjllelonaaGreat.Lw Go.Proofs.YtgihncjllelonaaGreat.Wt
set_option linter.unusedSimpArgs false
set_option linter.unusedVariables false

abbrev Ed := Int × Int × Int × Nat
def edV (p : Ed) : Value := .agg #[.int .i64 p.1, .int .i64 p.2.1, .int .i64 p.2.2.1, .int .u32 (p.2.2.2 : Int)]
def edsC (es : List Ed) : List Value := es.flatMap fun p => [.int .i64 p.1, .int .i64 p.2.1, .int .i64 p.2.2.1, .int .u32 (p.2.2.2 : Int)]
theorem edsC_cons (p : Ed) (es : List Ed) : edsC (p :: es) = .int .i64 p.1 :: .int .i64 p.2.1 :: .int .i64 p.2.2.1 :: .int .u32 (p.2.2.2 : Int) :: edsC es := rfl
theorem edsC_append (a b : List Ed) : edsC (a ++ b) = edsC a ++ edsC b := by simp [edsC]
theorem edsC_length : ∀ es : List Ed, (edsC es).length = es.length * 4
  | [] => rfl
  | p :: es => by rw [edsC_cons]; simp only [List.length_cons, edsC_length es]; omega
theorem edsC_at : ∀ (es : List Ed) (j : Nat) (e u v : Int) (b : Nat), es[j]? = some (e, u, v, b) → (edsC es)[j * 4]? = some (.int .i64 e) ∧ (edsC es)[j * 4 + 1]? = some (.int .i64 u) ∧ (edsC es)[j * 4 + 2]? = some (.int .i64 v) ∧ (edsC es)[j * 4 + 3]? = some (.int .u32 (b : Int))
  | [], j, e, u, v, b, h => by simp at h
  | p :: es, 0, e, u, v, b, h => by
    cases h
    exact ⟨rfl, rfl, rfl, rfl⟩
  | p :: es, j + 1, e, u, v, b, h => by
    have := edsC_at es j e u v b (by simpa using h)
    rw [edsC_cons, show (j + 1) * 4 = j * 4 + 1 + 1 + 1 + 1 by omega]
    simpa using this
def RdD (w : World) (A : Option Addr) (es : List Ed) : Prop := ∀ (j : Nat) (e u v : Int) (b : Nat), es[j]? = some (e, u, v, b) → ∃ g, A = some ⟨g, 0, none⟩ ∧ w.cell? ⟨g, j * 4, none⟩ = some (.int .i64 e) ∧ w.cell? ⟨g, j * 4 + 1, none⟩ = some (.int .i64 u) ∧ w.cell? ⟨g, j * 4 + 2, none⟩ = some (.int .i64 v) ∧ w.cell? ⟨g, j * 4 + 3, none⟩ = some (.int .u32 (b : Int))
theorem cell_below {w w' : World} {a : Addr} {v : Value} (hb : Below w.heap.size w w') (hc : w.cell? a = some v) : w'.cell? a = some v := (hb.cell (World.block_lt_of_cell? w _ hc)).trans hc
theorem RdD.below {w w' : World} {A : Option Addr} {es : List Ed} (h : RdD w A es) (hb : Below w.heap.size w w') : RdD w' A es := fun j e u v b hx => by
  obtain ⟨g, h1, h2, h3, h4, h5⟩ := h j e u v b hx
  exact ⟨g, h1, cell_below hb h2, cell_below hb h3, cell_below hb h4, cell_below hb h5⟩
theorem RdD.of_own {w : World} {base n c : Nat} {e : TypeId} {A : Option Addr} {l : List Ed} (h : w.ownsRow base e 4 (.slice A n c) n (edsC l)) : RdD w A l ∧ n = l.length := by
  have hn : n = l.length := by have := h.1; rw [edsC_length] at this; omega
  refine ⟨fun j e u v b hx => ?_, hn⟩
  have hj : j < l.length := (List.getElem?_eq_some_iff.1 hx).1
  obtain ⟨g, cap, hv, _⟩ := h.form (by omega)
  cases hv
  obtain ⟨h0, h1, h2, h3⟩ := edsC_at l j e u v b hx
  exact ⟨g, rfl, (h.cellAt (j * 4) (by omega)).trans h0, (h.cellAt (j * 4 + 1) (by omega)).trans h1, (h.cellAt (j * 4 + 2) (by omega)).trans h2, (h.cellAt (j * 4 + 3) (by omega)).trans h3⟩

section
variable {w w' : World} {me : Nat} {f : Int → Option Value}
theorem cell_not_map (hm : MQ w me f) {a : Addr} {v : Value} (h : w.cell? a = some v) : a.block ≠ me := by
  rintro rfl
  obtain ⟨es, clock, hb, _⟩ := hm
  unfold World.cell? at h
  rw [hb] at h
  cases h
theorem cell_kept {p : Nat → Prop} (hk : Kpt p w w') {a : Addr} {v : Value} (h : w.cell? a = some v) (hp : ¬ p a.block) : w'.cell? a = some v :=
  (World.cell?_of_block (w := w) (hk.block a.block (World.block_lt_of_cell? w _ h) hp)).trans h
theorem rdI_keptM {A : Option Addr} {l : List Int} (h : RdI w A l) (hm : MQ w me f) (hk : Kpt (fun k => k = me) w w') : RdI w' A l := fun j x hx => by
  obtain ⟨b, h1, h2⟩ := h j x hx
  exact ⟨b, h1, cell_kept hk h2 (cell_not_map hm h2)⟩
theorem rdD_keptM {A : Option Addr} {l : List Ed} (h : RdD w A l) (hm : MQ w me f) (hk : Kpt (fun k => k = me) w w') : RdD w' A l := fun j e u v b hx => by
  obtain ⟨g, h1, h2, h3, h4, h5⟩ := h j e u v b hx
  exact ⟨g, h1, cell_kept hk h2 (cell_not_map hm h2), cell_kept hk h3 (cell_not_map hm h3), cell_kept hk h4 (cell_not_map hm h4), cell_kept hk h5 (cell_not_map hm h5)⟩
end

def edF (es : List Ed) : Int → Option Value := fun e => (es.find? fun p => decide (p.1 = e)).map edV
theorem edF_none {es : List Ed} {e : Int} : edF es e = none ↔ ∀ p ∈ es, p.1 ≠ e := by
  unfold edF
  rw [Option.map_eq_none_iff, List.find?_eq_none]
  simp
theorem edF_step {es : List Ed} {x : Ed} (h : ∀ p ∈ es, p.1 ≠ x.1) : updV (edF es) x.1 (some (edV x)) = edF (es ++ [x]) := by
  funext e
  unfold updV edF
  rw [List.find?_append]
  by_cases he : e = x.1
  · subst he
    rw [if_pos rfl]
    have : es.find? (fun p => decide (p.1 = x.1)) = none := List.find?_eq_none.2 (by simpa using h)
    rw [this]
    simp
  · rw [if_neg he]
    have : ([x].find? fun p => decide (p.1 = e)) = none := List.find?_eq_none.2 (by simpa using fun h => he h.symm)
    rw [this]
    simp

def tcode (sv : List Int) (es : List Ed) (s : Int) : Nat :=
  if ¬ sv.Nodup then 2 else if ¬ (es.map (·.1)).Nodup then 2 else if ∃ p ∈ es, p.1 < 1 then 1 else if ∃ p ∈ es, ¬ (p.2.1 ∈ sv ∧ p.2.2.1 ∈ sv) then 5 else if s ∉ sv then 5 else if ∃ p ∈ es, admOk p.2.2.2 = false then 7 else 0
theorem tcode_dup {sv : List Int} {es : List Ed} {s : Int} (h : ¬ sv.Nodup) : tcode sv es s = 2 := if_pos h
theorem tcode_eq {sv : List Int} {es : List Ed} {s : Int} (h : sv.Nodup) : tcode sv es s = if ¬ (es.map (·.1)).Nodup then 2 else if ∃ p ∈ es, p.1 < 1 then 1 else if ∃ p ∈ es, ¬ (p.2.1 ∈ sv ∧ p.2.2.1 ∈ sv) then 5 else if s ∉ sv then 5 else if ∃ p ∈ es, admOk p.2.2.2 = false then 7 else 0 := if_neg (not_not_intro h)
section
variable {sv : List Int} {es : List Ed} {s : Int}
theorem tcode_1 (hN : sv.Nodup) (hK : (es.map (·.1)).Nodup) (h : ∃ p ∈ es, p.1 < 1) : tcode sv es s = 1 := (tcode_eq hN).trans ((if_neg (not_not_intro hK)).trans (if_pos h))
theorem tcode_b (hN : sv.Nodup) (hK : (es.map (·.1)).Nodup) (h1 : ∀ p ∈ es, 1 ≤ p.1) : tcode sv es s = if ∃ p ∈ es, ¬ (p.2.1 ∈ sv ∧ p.2.2.1 ∈ sv) then 5 else if s ∉ sv then 5 else if ∃ p ∈ es, admOk p.2.2.2 = false then 7 else 0 :=
  (tcode_eq hN).trans ((if_neg (not_not_intro hK)).trans (if_neg fun ⟨p, hp, hl⟩ => by have := h1 p hp; omega))
theorem tcode_c (hN : sv.Nodup) (hK : (es.map (·.1)).Nodup) (h1 : ∀ p ∈ es, 1 ≤ p.1) (h2 : ∀ p ∈ es, p.2.1 ∈ sv ∧ p.2.2.1 ∈ sv) : tcode sv es s = if s ∉ sv then 5 else if ∃ p ∈ es, admOk p.2.2.2 = false then 7 else 0 :=
  (tcode_b hN hK h1).trans (if_neg fun ⟨p, hp, hl⟩ => hl (h2 p hp))
theorem tcode_d (hN : sv.Nodup) (hK : (es.map (·.1)).Nodup) (h1 : ∀ p ∈ es, 1 ≤ p.1) (h2 : ∀ p ∈ es, p.2.1 ∈ sv ∧ p.2.2.1 ∈ sv) (hs : s ∈ sv) : tcode sv es s = if ∃ p ∈ es, admOk p.2.2.2 = false then 7 else 0 :=
  (tcode_c hN hK h1 h2).trans (if_neg (not_not_intro hs))
end
theorem tcode_zero {sv : List Int} {es : List Ed} {s : Int} (h : tcode sv es s = 0) : sv.Nodup ∧ (es.map (·.1)).Nodup ∧ (∀ p ∈ es, 1 ≤ p.1) ∧ (∀ p ∈ es, p.2.1 ∈ sv ∧ p.2.2.1 ∈ sv) ∧ s ∈ sv ∧ ∀ p ∈ es, admOk p.2.2.2 = true := by
  unfold tcode at h
  split at h
  · cases h
  · rename_i h1
    split at h
    · cases h
    · rename_i h2
      split at h
      · cases h
      · rename_i h3
        split at h
        · cases h
        · rename_i h4
          split at h
          · cases h
          · rename_i h5
            split at h
            · cases h
            · rename_i h6
              refine ⟨Classical.not_not.1 h1, Classical.not_not.1 h2, fun p hp => ?_, fun p hp => ?_, Classical.not_not.1 h5, fun p hp => ?_⟩
              · exact Int.not_lt.1 fun hl => h3 ⟨p, hp, hl⟩
              · exact Classical.not_not.1 fun hl => h4 ⟨p, hp, hl⟩
              · cases hb : admOk p.2.2.2 with
                | true => rfl
                | false => exact absurd ⟨p, hp, hb⟩ h6
end Go.Proofs.YtgihncjllelonaaGreat.Tb
