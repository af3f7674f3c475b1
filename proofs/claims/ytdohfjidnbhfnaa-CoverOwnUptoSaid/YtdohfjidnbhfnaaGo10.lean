/- scc.Of. -/
import Derived.Test.YtdohfjidnbhfnaaGo8
import Derived.Test.YtdohfjidnbhfnaaGo9
import Derived.Test.YtdohfjidnbhfnaaGo4
namespace Go.Proofs.Ytdohfjidnbhfnaa.Scc
open Go Go.RowKit Go.Proofs.Ytdohfjidnbhfnaa.Mem Go.Proofs.Ytdohfjidnbhfnaa.Tj Go.Proofs.Ytdohfjidnbhfnaa.Sl Go.Proofs.YtdohfjidnbhfnaaW.PrintWords Go.Proofs.YtdohfjidnbhfnaaW.PrintLast
attribute [local go_sem ↓] Go.wp_at_zero Go.wp_at_succ
set_option linter.unusedSimpArgs false
set_option linter.unusedVariables false

structure RwsI (w : World) (base bo n : Nat) (vals : List Value) (out : List (List Int)) : Prop where
  hat : At w bo vals 24
  lv : vals.length = n
  lo : out.length = n
  own : ∀ (u : Nat) (v : Value) (r : List Int), vals[u]? = some v → out[u]? = some r → w.ownsRow base 3 1 v r.length (ints r)
  apart : ∀ (u u' : Nat) (v v' : Value), u ≠ u' → vals[u]? = some v → vals[u']? = some v' → v.ownBlock = none ∨ v.ownBlock ≠ v'.ownBlock

theorem RwsI.below {w w' : World} {base bo n : Nat} {vals : List Value} {out : List (List Int)} (h : RwsI w base bo n vals out) (hb : Below w.heap.size w w') : RwsI w' base bo n vals out :=
  ⟨h.hat.below hb h.hat.lt, h.lv, h.lo, fun u v r h1 h2 => own_move (h.own u v r h1 h2) (fun k hk => hb.block k ((h.own u v r h1 h2).lt k hk).2), h.apart⟩

theorem RwsI.push {w w1 : World} {base bo n u g cap : Nat} {x : Int} {vals : List Value} {out : List (List Int)} {v : Value} {r : List Int} (h : RwsI w base bo n vals out) (hv : vals[u]? = some v) (hr : out[u]? = some r)
    (hb : bo < base) (hg : w.grownBy w1 v.ownBlock) (ho : w1.ownsRow base 3 1 (.slice (some ⟨g, 0, none⟩) (r.length + 1) cap) (r.length + 1) (ints (r ++ [x]))) (hat : v.ownBlock = some g ∨ g = w.heap.size) :
    RwsI (w1.setCell ⟨bo, u, none⟩ (.slice (some ⟨g, 0, none⟩) (r.length + 1) cap)) base bo n (vals.set u (.slice (some ⟨g, 0, none⟩) (r.length + 1) cap)) (out.set u (r ++ [x])) := by
  have hu : u < vals.length := (List.getElem?_eq_some_iff.1 hv).1
  have huo : u < out.length := (List.getElem?_eq_some_iff.1 hr).1
  refine ⟨(h.hat.grown hg (own_under (h.own u v r hv hr) hb)).put rfl, by simpa using h.lv, by simpa using h.lo, ?_, ?_⟩
  · intro u' v' r' h1 h2
    by_cases he : u' = u
    · subst he
      rw [List.getElem?_set_self hu] at h1
      rw [List.getElem?_set_self huo] at h2
      cases h1
      cases h2
      rw [List.length_append]
      exact ho.setB hb
    · rw [List.getElem?_set_ne (Ne.symm he)] at h1 h2
      exact ((h.own u' v' r' h1 h2).kept hg (h.apart u' u v' v he h1 hv)).setB hb
  · intro u1 u2 v1 v2 hne h1 h2
    by_cases e1 : u1 = u
    · subst e1
      rw [List.getElem?_set_self hu] at h1
      cases h1
      rw [List.getElem?_set_ne hne] at h2
      right
      intro he
      have hlt : u2 < out.length := by rw [h.lo, ← h.lv]; exact (List.getElem?_eq_some_iff.1 h2).1
      have h3 := (h.own u2 v2 _ h2 (List.getElem?_eq_getElem hlt)).lt g (by rw [← he]; rfl)
      rcases hat with h4 | h4
      · rcases h.apart u2 u1 v2 v (Ne.symm hne) h2 hv with h5 | h5
        · rw [h5] at he; simp [Value.ownBlock] at he
        · apply h5; rw [← he, h4]; rfl
      · omega
    · rw [List.getElem?_set_ne (Ne.symm e1)] at h1
      by_cases e2 : u2 = u
      · subst e2
        rw [List.getElem?_set_self hu] at h2
        cases h2
        have hlt : u1 < out.length := by rw [h.lo, ← h.lv]; exact (List.getElem?_eq_some_iff.1 h1).1
        rcases hat with h4 | h4
        · rcases h.apart u1 u2 v1 v hne h1 hv with h5 | h5
          · exact .inl h5
          · right; intro he; apply h5; rw [he, h4]; rfl
        · right
          intro he
          have h3 := (h.own u1 v1 _ h1 (List.getElem?_eq_getElem hlt)).lt g he
          omega
      · rw [List.getElem?_set_ne (Ne.symm e2)] at h2
        exact h.apart u1 u2 v1 v2 hne h1 h2



theorem RwsI.start {w : World} {base bo n : Nat} (h : At w bo (List.replicate n (.slice none 0 0)) 24) : RwsI w base bo n (List.replicate n (.slice none 0 0)) (List.replicate n []) := by
  refine ⟨h, by simp, by simp, ?_, ?_⟩
  · intro u v r e1 e2
    rw [List.getElem?_replicate] at e1 e2
    split at e1
    · cases e1
      rw [if_pos (by assumption)] at e2
      cases e2
      exact World.ownsRow_nil _ _ _ _
    · cases e1
  · intro u u' v v' _ e1 _
    rw [List.getElem?_replicate] at e1
    split at e1
    · cases e1; left; rfl
    · cases e1

end Go.Proofs.Ytdohfjidnbhfnaa.Scc
