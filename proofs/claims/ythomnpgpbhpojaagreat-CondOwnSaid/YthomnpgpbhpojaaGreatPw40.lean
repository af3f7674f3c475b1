/- One call of a script more. -/
import Derived.Test.YthomnpgpbhpojaaGreatPw35
namespace Go.Proofs.YthomnpgpbhpojaaGreat.Cd
open Go Go.RowKit Go.MapKept Go.Proofs.YthomnpgpbhpojaaGreat.Mem Go.Proofs.YthomnpgpbhpojaaGreat.Sl Go.Proofs.YthomnpgpbhpojaaGreat.Scc Go.Proofs.YthomnpgpbhpojaaGreat.Tj Go.Proofs.YthomnpgpbhpojaaGreat.Lw Go.Proofs.YthomnpgpbhpojaaGreat.Pt
set_option linter.unusedSimpArgs false
set_option linter.unusedVariables false

section
variable {w W W' : World} {gc gB j : Nat} {G : Gp} {lk : Int} {arcs : Int → Option (Int × Int)} {cls : Int → Option Nat} {row : Nat → List Int} {cb : Nat → Prop} {vs : List Int} {es : List (Int × Int × Int)} {k e u v : Int}
theorem Sc.play_below {w6 : World} {G' : Gp} (h : Sc w W gc gB j G lk arcs cls row cb vs es) (hP : PlayPost W gc lk cls row cb vs es k e u v w6 G') : Below w.heap.size w w6 ∧ At w6 gB [.slice G.A G.n G.c, .slice G.E G.m G.ce, .int .i64 0, .int .i64 G.gw] 28 := by
  obtain ⟨_, _, _, _, _, _, _, _, _, _, hK, _⟩ := hP
  exact ⟨(h.b).trans (hK.to_below fun k hk => ⟨Nat.lt_of_lt_of_le hk h.b.size, fun hx => by have := h.ge k hx; omega⟩), h.at_.kept hK h.nb⟩
theorem Sc.next2 {w6 W7 : World} {G' : Gp} (h : Sc w W gc gB j G lk arcs cls row cb vs es) (hP : PlayPost W gc lk cls row cb vs es k e u v w6 G') (hj : j < 60) (hk : Kpt (fun x => x = gB) w6 W7) (hat : At W7 gB [.slice G'.A G'.n G'.c, .slice G'.E G'.m G'.ce, .int .i64 0, .int .i64 G'.gw] 28) :
    ∃ lk' arcs' cls' row' cb' vs' es', Sc w W7 gc gB (j + 1) G' lk' arcs' cls' row' cb' vs' es' ∧ (∀ x, cb' x → cb x ∨ W.heap.size ≤ x) ∧ Kpt cb W w6 := by
  obtain ⟨hB6, hg6⟩ := h.play_below hP
  obtain ⟨vs', es', lk', arcs', cls', row', cb', hC, hS, hG, hK, hcb, hl1, hl2, hB⟩ := hP
  have hcb' : ∀ x, cb' x → cb x ∨ (W.heap.size ≤ x ∧ x < w6.heap.size) := hcb
  have hno : ∀ x, x < W.heap.size → ¬ cb x → ¬ cb' x := fun x hx hn hc => (hcb' x hc).elim hn fun h => by omega
  have hnB := hno gB h.at_.lt h.nb
  have hlv := h.lv
  have hle := h.le
  have hgq : GrO w6 (fun x => cb' x ∨ x = gB) G' vs' es' := ⟨hG.rv, hG.nv, fun x hx hq => hq.elim (hG.qv x hx) fun e => own_off hG.rv hg6 (by decide) (e ▸ hx.symm), hG.re, hG.ne, fun x hx hq => hq.elim (hG.qe x hx) fun e => own_off hG.re hg6 (by decide) (e ▸ hx.symm)⟩
  have hB7 : Below w.heap.size w W7 := hB6.trans (hk.to_below fun k hk => ⟨by have := hB6.size; omega, fun hx => by have := h.gb; omega⟩)
  exact ⟨lk', arcs', cls', row', cb', vs', es', ⟨⟨hC.kept hk fun x hx e => hnB (e ▸ hx), hS, (hgq.kept hk fun x hx => .inr hx).mono fun x _ hx => .inl hx, by omega, by omega⟩, hat, hnB, fun x hx => (hcb' x hx).elim (h.ge x) fun h2 => by have := h.b.size; omega, h.gb, hB7, by omega, by omega⟩, fun x hx => (hcb' x hx).imp id And.left, hK⟩
theorem Sc.next {w6 W7 : World} {G' : Gp} (h : Sc w W gc gB j G lk arcs cls row cb vs es) (hP : PlayPost W gc lk cls row cb vs es k e u v w6 G') (hj : j < 60) (hk : Kpt (fun x => x = gB) w6 W7) (hat : At W7 gB [.slice G'.A G'.n G'.c, .slice G'.E G'.m G'.ce, .int .i64 0, .int .i64 G'.gw] 28) :
    ∃ lk' arcs' cls' row' cb' vs' es', Sc w W7 gc gB (j + 1) G' lk' arcs' cls' row' cb' vs' es' := by
  obtain ⟨lk', arcs', cls', row', cb', vs', es', hS, _⟩ := h.next2 hP hj hk hat
  exact ⟨lk', arcs', cls', row', cb', vs', es', hS⟩
end
end Go.Proofs.YthomnpgpbhpojaaGreat.Cd
