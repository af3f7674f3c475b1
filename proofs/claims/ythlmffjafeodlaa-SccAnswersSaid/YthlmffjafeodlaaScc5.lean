/- scc.made. -/
import Derived.Test.YthlmffjafeodlaaScc3
import Derived.Test.YthlmffjafeodlaaSl
import Derived.Test.YthlmffjafeodlaaTj
import Derived.Deep.OwnRows
import Derived.Deep.DeepCutAuto
import Derived.Deep.RegionWith
namespace Go.Proofs.Ythlmffjafeodlaa.Scc
open Go Go.RowKit Go.Proofs.Ythlmffjafeodlaa.Mem Go.Proofs.Ythlmffjafeodlaa.Tj Go.Proofs.Ythlmffjafeodlaa.Sl Go.Proofs.YthlmffjafeodlaaW.PrintWords Go.Proofs.YthlmffjafeodlaaW.PrintLast
attribute [local go_sem ↓] Go.wp_at_zero Go.wp_at_succ
set_option linter.unusedSimpArgs false
set_option linter.unusedVariables false

theorem info_ints : (Try.prog.info? 22).map (fun i => (i.zero, i.size, i.bytes)) = some (some (.slice none 0 0), 1, 24) := by kernel_rfl

/-- The arcs can be read at A. -/
def RdA (w : World) (A : Option Addr) (l : List (Int × Int)) : Prop := ∀ (j : Nat) (u v : Int), l[j]? = some (u, v) → ∃ b, A = some ⟨b, 0, none⟩ ∧ w.cell? ⟨b, j * 2, none⟩ = some (.int .i64 u) ∧ w.cell? ⟨b, j * 2 + 1, none⟩ = some (.int .i64 v)
theorem RdA.below {w w' : World} {A : Option Addr} {l : List (Int × Int)} (h : RdA w A l) (hb : Below w.heap.size w w') : RdA w' A l := fun j u v hx => by
  obtain ⟨b, h1, h2, h3⟩ := h j u v hx
  exact ⟨b, h1, (hb.cell (p := ⟨b, j * 2, none⟩) (World.block_lt_of_cell? w _ h2)).trans h2, (hb.cell (p := ⟨b, j * 2 + 1, none⟩) (World.block_lt_of_cell? w _ h3)).trans h3⟩

/-- The rows of the graph while it is made: each a row of its own. -/
structure Rws (w : World) (base bo n : Nat) (vals : List Value) (out : List (List Nat)) : Prop where
  hat : At w bo vals 22
  lv : vals.length = n
  lo : out.length = n
  own : ∀ (u : Nat) (v : Value) (r : List Nat), vals[u]? = some v → out[u]? = some r → w.ownsRow base 3 1 v r.length (nats r)
  apart : ∀ (u u' : Nat) (v v' : Value), u ≠ u' → vals[u]? = some v → vals[u']? = some v' → v.ownBlock = none ∨ v.ownBlock ≠ v'.ownBlock

theorem Rws.below {w w' : World} {base bo n : Nat} {vals : List Value} {out : List (List Nat)} (h : Rws w base bo n vals out) (hb : Below w.heap.size w w') : Rws w' base bo n vals out :=
  ⟨h.hat.below hb h.hat.lt, h.lv, h.lo, fun u v r h1 h2 => own_move (h.own u v r h1 h2) (fun k hk => hb.block k ((h.own u v r h1 h2).lt k hk).2), h.apart⟩

/-- One row more long. -/
theorem Rws.push {w w1 : World} {base bo n u x g cap : Nat} {vals : List Value} {out : List (List Nat)} {v : Value} {r : List Nat} (h : Rws w base bo n vals out) (hv : vals[u]? = some v) (hr : out[u]? = some r)
    (hb : bo < base) (hg : w.grownBy w1 v.ownBlock) (ho : w1.ownsRow base 3 1 (.slice (some ⟨g, 0, none⟩) (r.length + 1) cap) (r.length + 1) (nats (r ++ [x]))) (hat : v.ownBlock = some g ∨ g = w.heap.size) :
    Rws (w1.setCell ⟨bo, u, none⟩ (.slice (some ⟨g, 0, none⟩) (r.length + 1) cap)) base bo n (vals.set u (.slice (some ⟨g, 0, none⟩) (r.length + 1) cap)) (out.set u (r ++ [x])) := by
  have hu : u < vals.length := (List.getElem?_eq_some_iff.1 hv).1
  have huo : u < out.length := (List.getElem?_eq_some_iff.1 hr).1
  refine ⟨(h.hat.grown hg (own_under (h.own u v r hv hr) hb)).put rfl, by simpa using h.lv, by simpa using h.lo, ?_, ?_⟩
  · intro u' v' r' h1 h2
    by_cases he : u' = u
    · subst he
      rw [List.getElem?_set_self hu] at h1
      rw [List.getElem?_set_self huo] at h2
      cases h1
      cases h2
      rw [List.length_append]
      exact ho.setB hb
    · rw [List.getElem?_set_ne (Ne.symm he)] at h1 h2
      exact ((h.own u' v' r' h1 h2).kept hg (h.apart u' u v' v he h1 hv)).setB hb
  · intro u1 u2 v1 v2 hne h1 h2
    by_cases e1 : u1 = u
    · subst e1
      rw [List.getElem?_set_self hu] at h1
      cases h1
      rw [List.getElem?_set_ne hne] at h2
      right
      intro he
      have hlt : u2 < out.length := by rw [h.lo, ← h.lv]; exact (List.getElem?_eq_some_iff.1 h2).1
      have h3 := (h.own u2 v2 _ h2 (List.getElem?_eq_getElem hlt)).lt g (by rw [← he]; rfl)
      rcases hat with h4 | h4
      · rcases h.apart u2 u1 v2 v (Ne.symm hne) h2 hv with h5 | h5
        · rw [h5] at he; simp [Value.ownBlock] at he
        · apply h5; rw [← he, h4]; rfl
      · omega
    · rw [List.getElem?_set_ne (Ne.symm e1)] at h1
      by_cases e2 : u2 = u
      · subst e2
        rw [List.getElem?_set_self hu] at h2
        cases h2
        have hlt : u1 < out.length := by rw [h.lo, ← h.lv]; exact (List.getElem?_eq_some_iff.1 h1).1
        rcases hat with h4 | h4
        · rcases h.apart u1 u2 v1 v hne h1 hv with h5 | h5
          · exact .inl h5
          · right; intro he; apply h5; rw [he, h4]; rfl
        · right
          intro he
          have h3 := (h.own u1 v1 _ h1 (List.getElem?_eq_getElem hlt)).lt g he
          omega
      · rw [List.getElem?_set_ne (Ne.symm e2)] at h2
        exact h.apart u1 u2 v1 v2 hne h1 h2

/-- The rows as they can be read. -/
theorem Rws.gr {w : World} {base bo gg n : Nat} {vsv : Value} {vals : List Value} {out : List (List Nat)} (h : Rws w base bo n vals out) (hg : At w gg [vsv, .slice (some ⟨bo, 0, none⟩) n n] 55) (hb : ∀ r ∈ out, r.length ≤ 1000000) :
    Gr w w.heap.size gg n vsv out := by
  refine ⟨h.lo, bo, vals, hg, h.hat, hg.lt, h.hat.lt, h.lv, fun u r hr => ?_⟩
  have hu : u < vals.length := by rw [h.lv, ← h.lo]; exact (List.getElem?_eq_some_iff.1 hr).1
  have ho := h.own u _ r (List.getElem?_eq_getElem hu) hr
  obtain ⟨A, c, hv⟩ := own_slice ho
  refine ⟨A, c, by rw [List.getElem?_eq_getElem hu, hv], hb r (List.mem_of_getElem? hr), fun j x hx => ?_⟩
  have hj : j < r.length := (List.getElem?_eq_some_iff.1 hx).1
  rw [hv] at ho
  obtain ⟨g, cap, he, _, hlt⟩ := ho.form (by omega)
  cases he
  refine ⟨g, rfl, hlt, ?_⟩
  rw [ho.cellAt j (by omega)]
  exact nats_at r hx

end Go.Proofs.Ythlmffjafeodlaa.Scc
