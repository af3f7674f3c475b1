/- CondOwn: rows apart, plain. -/
import Derived.Test.YthomnpgpbhpojaaGreatPw5
import Derived.Test.YthomnpgpbhpojaaGreatPw39
import Derived.Test.YthomnpgpbhpojaaGreatPw40
namespace Go.Proofs.YthomnpgpbhpojaaGreat.Cd
open Go Go.RowKit Go.MapKept Go.Proofs.YthomnpgpbhpojaaGreat.Mem Go.Proofs.YthomnpgpbhpojaaGreat.Sl Go.Proofs.YthomnpgpbhpojaaGreat.Scc Go.Proofs.YthomnpgpbhpojaaGreat.Tj Go.Proofs.YthomnpgpbhpojaaGreat.Lw Go.Proofs.YthomnpgpbhpojaaGreat.Pt
set_option linter.unusedSimpArgs false
set_option linter.unusedVariables false

def Ap (v v' : Value) : Prop := ∀ k, v.ownBlock = some k → v'.ownBlock ≠ some k
structure OwS (w W : World) (vl vh va vm vi vb : Value) (xl xh : List Int) (xa : List (Int × Int)) (M H : List Int) (RA : List (Int × Int)) : Prop where
  b : Below w.heap.size w W
  l : W.ownsRow w.heap.size 3 1 vl xl.length (ints xl)
  h : W.ownsRow w.heap.size 3 1 vh xh.length (ints xh)
  a : W.ownsRow w.heap.size 41 2 va xa.length (arcs2 xa)
  m : W.ownsRow w.heap.size 3 1 vm M.length (ints M)
  i : W.ownsRow w.heap.size 3 1 vi H.length (ints H)
  r : W.ownsRow w.heap.size 41 2 vb RA.length (arcs2 RA)
  lh : Ap vl vh
  lm : Ap vl vm
  li : Ap vl vi
  hm : Ap vh vm
  hi : Ap vh vi
  ab : Ap va vb
section
variable {w W W' : World} {vl vh va vm vi vb : Value} {xl xh : List Int} {xa : List (Int × Int)} {M H : List Int} {RA : List (Int × Int)}
theorem Ap.symm {v v' : Value} (h : Ap v v') : Ap v' v := fun k h1 h2 => h k h2 h1
theorem ap_new {B s s' n n' : Nat} {e e' : TypeId} {v v' : Value} {xs xs' : List Value} (h : W.ownsRow B e s v n xs) (h' : W'.ownsRow W.heap.size e' s' v' n' xs') : Ap v v' := fun k h1 h2 => by
  have := (h.lt k h1).2
  have := (h'.lt k h2).1
  omega
theorem ap_type {B s s' n n' : Nat} {e e' : TypeId} {v v' : Value} {xs xs' : List Value} (h : W.ownsRow B e s v n xs) (h' : W.ownsRow B e' s' v' n' xs') (hne : e ≠ e') : Ap v v' := fun k h1 h2 => by
  rcases own_apart h h' hne with h3 | h3
  · rw [h1] at h3; cases h3
  · exact h3 (h1.trans h2.symm)
theorem own_grow {B s n : Nat} {e : TypeId} {v u : Value} {xs : List Value} (h : W.ownsRow B e s v n xs) (hg : W.grownBy W' u.ownBlock) (ha : Ap u v) : W'.ownsRow B e s v n xs := by
  refine h.kept hg ?_
  cases hv : v.ownBlock with
  | none => exact .inl rfl
  | some k => exact .inr fun e => ha k e.symm hv
theorem OwS.below (h : OwS w W vl vh va vm vi vb xl xh xa M H RA) (hb : Below W.heap.size W W') : OwS w W' vl vh va vm vi vb xl xh xa M H RA :=
  ⟨h.b.trans (hb.mono h.b.size), own_below h.l hb, own_below h.h hb, own_below h.a hb, own_below h.m hb, own_below h.i hb, own_below h.r hb, h.lh, h.lm, h.li, h.hm, h.hi, h.ab⟩
theorem grow_b {B s n : Nat} {e : TypeId} {v : Value} {xs : List Value} (h : Below B w W) (ho : W.ownsRow B e s v n xs) (hB : B ≤ W.heap.size) (hg : W.grownBy W' v.ownBlock) : Below B w W' := h.grown hg hB fun k hk => (ho.lt k hk).1
theorem OwS.gl (h : OwS w W vl vh va vm vi vb xl xh xa M H RA) {v' : Value} {x' : List Int} (ho : W'.ownsRow w.heap.size 3 1 v' x'.length (ints x')) (hg : W.grownBy W' vl.ownBlock) (hn : v'.ownBlock = vl.ownBlock ∨ v'.ownBlock = some W.heap.size) : OwS w W' v' vh va vm vi vb x' xh xa M H RA := by
  have hla := ap_type h.l h.a (by decide)
  have hlr := ap_type h.l h.r (by decide)
  have hap : ∀ {s n : Nat} {e : TypeId} {u : Value} {xs : List Value}, Ap vl u → W.ownsRow w.heap.size e s u n xs → Ap v' u := fun ha hu k h1 h2 => by
    rcases hn with h3 | h3
    · exact ha k (h3 ▸ h1) h2
    · have := (hu.lt k h2).2
      rw [h3] at h1
      cases h1
      omega
  exact ⟨grow_b h.b h.l h.b.size hg, ho, own_grow h.h hg h.lh, own_grow h.a hg hla, own_grow h.m hg h.lm, own_grow h.i hg h.li, own_grow h.r hg hlr, hap h.lh h.h, hap h.lm h.m, hap h.li h.i, h.hm, h.hi, h.ab⟩
theorem OwS.gh (h : OwS w W vl vh va vm vi vb xl xh xa M H RA) {v' : Value} {x' : List Int} (ho : W'.ownsRow w.heap.size 3 1 v' x'.length (ints x')) (hg : W.grownBy W' vh.ownBlock) (hn : v'.ownBlock = vh.ownBlock ∨ v'.ownBlock = some W.heap.size) : OwS w W' vl v' va vm vi vb xl x' xa M H RA := by
  have hla := ap_type h.h h.a (by decide)
  have hlr := ap_type h.h h.r (by decide)
  have hap : ∀ {s n : Nat} {e : TypeId} {u : Value} {xs : List Value}, Ap vh u → W.ownsRow w.heap.size e s u n xs → Ap v' u := fun ha hu k h1 h2 => by
    rcases hn with h3 | h3
    · exact ha k (h3 ▸ h1) h2
    · have := (hu.lt k h2).2
      rw [h3] at h1
      cases h1
      omega
  exact ⟨grow_b h.b h.h h.b.size hg, own_grow h.l hg h.lh.symm, ho, own_grow h.a hg hla, own_grow h.m hg h.hm, own_grow h.i hg h.hi, own_grow h.r hg hlr, (hap h.lh.symm h.l).symm, h.lm, h.li, hap h.hm h.m, hap h.hi h.i, h.ab⟩
theorem OwS.ga (h : OwS w W vl vh va vm vi vb xl xh xa M H RA) {v' : Value} {x' : List (Int × Int)} (ho : W'.ownsRow w.heap.size 41 2 v' x'.length (arcs2 x')) (hg : W.grownBy W' va.ownBlock) (hn : v'.ownBlock = va.ownBlock ∨ v'.ownBlock = some W.heap.size) : OwS w W' vl vh v' vm vi vb xl xh x' M H RA := by
  have hal := ap_type h.a h.l (by decide)
  have hah := ap_type h.a h.h (by decide)
  have ham := ap_type h.a h.m (by decide)
  have hai := ap_type h.a h.i (by decide)
  have hap : ∀ {s n : Nat} {e : TypeId} {u : Value} {xs : List Value}, Ap va u → W.ownsRow w.heap.size e s u n xs → Ap v' u := fun ha hu k h1 h2 => by
    rcases hn with h3 | h3
    · exact ha k (h3 ▸ h1) h2
    · have := (hu.lt k h2).2
      rw [h3] at h1
      cases h1
      omega
  exact ⟨grow_b h.b h.a h.b.size hg, own_grow h.l hg hal, own_grow h.h hg hah, ho, own_grow h.m hg ham, own_grow h.i hg hai, own_grow h.r hg h.ab, h.lh, h.lm, h.li, h.hm, h.hi, hap h.ab h.r⟩
theorem OwS.wl {g c : Nat} (h : OwS w W (.slice (some ⟨g, 0, none⟩) xl.length c) vh va vm vi vb xl xh xa M H RA) (k : Nat) (x : Int) : OwS w (W.setCell ⟨g, k, none⟩ (.int .i64 x)) (.slice (some ⟨g, 0, none⟩) xl.length c) vh va vm vi vb (xl.set k x) xh xa M H RA := by
  obtain ⟨h1, h2⟩ := h.l.stored k (.int .i64 x)
  rw [ints_set] at h1
  exact h.gl (x' := xl.set k x) (by rw [List.length_set]; exact h1) h2 (.inl rfl)
theorem OwS.wh {g c : Nat} (h : OwS w W vl (.slice (some ⟨g, 0, none⟩) xh.length c) va vm vi vb xl xh xa M H RA) (k : Nat) (x : Int) : OwS w (W.setCell ⟨g, k, none⟩ (.int .i64 x)) vl (.slice (some ⟨g, 0, none⟩) xh.length c) va vm vi vb xl (xh.set k x) xa M H RA := by
  obtain ⟨h1, h2⟩ := h.h.stored k (.int .i64 x)
  rw [ints_set] at h1
  exact h.gh (x' := xh.set k x) (by rw [List.length_set]; exact h1) h2 (.inl rfl)
theorem OwS.wa {g c : Nat} (h : OwS w W vl vh (.slice (some ⟨g, 0, none⟩) xa.length c) vm vi vb xl xh xa M H RA) (k : Nat) (x : Int × Int) : OwS w ((W.setCell ⟨g, k * 2, none⟩ (.int .i64 x.1)).setCell ⟨g, k * 2 + 1, none⟩ (.int .i64 x.2)) vl vh (.slice (some ⟨g, 0, none⟩) xa.length c) vm vi vb xl xh (xa.set k x) M H RA := by
  obtain ⟨h1, h2⟩ := h.a.stored (k * 2) (.int .i64 x.1)
  obtain ⟨h3, h4⟩ := h1.stored (k * 2 + 1) (.int .i64 x.2)
  have h5 := own_set2 h.a k x
  refine h.ga (x' := xa.set k x) (by rw [List.length_set]; exact h5) ⟨h4.os.trans h2.os, h4.tape.trans h2.tape, h4.output.trans h2.output, Nat.le_trans h2.size h4.size, fun b hb hne => ?_⟩ (.inl rfl)
  rw [h4.block b (Nat.lt_of_lt_of_le hb h2.size) hne, h2.block b hb hne]
theorem OwS.start {w1 w2 w3 w4 w5 w6 : World} (o1 : w1.ownsRow w.heap.size 3 1 vl M.length (ints M)) (b1 : Below w.heap.size w w1) (o2 : w2.ownsRow w1.heap.size 3 1 vh H.length (ints H)) (b2 : Below w1.heap.size w1 w2) (o3 : w3.ownsRow w2.heap.size 41 2 va RA.length (arcs2 RA)) (b3 : Below w2.heap.size w2 w3)
    (o4 : w4.ownsRow w3.heap.size 3 1 vm M.length (ints M)) (b4 : Below w3.heap.size w3 w4) (o5 : w5.ownsRow w4.heap.size 3 1 vi H.length (ints H)) (b5 : Below w4.heap.size w4 w5) (o6 : w6.ownsRow w5.heap.size 41 2 vb RA.length (arcs2 RA)) (b6 : Below w5.heap.size w5 w6) : OwS w w6 vl vh va vm vi vb M H RA M H RA := by
  have s1 := b1.size
  have s2 := b2.size
  have s3 := b3.size
  have s4 := b4.size
  have s5 := b5.size
  have c2 := own_below o1 b2
  have c3 := own_below c2 b3
  have c4 := own_below c3 b4
  have d3 := own_below o2 b3
  have d4 := own_below d3 b4
  have e4 := own_below o3 b4
  have e5 := own_below e4 b5
  exact ⟨((((b1.trans (b2.mono s1)).trans (b3.mono (by omega))).trans (b4.mono (by omega))).trans (b5.mono (by omega))).trans (b6.mono (by omega)), own_below (own_below c4 b5) b6, own_mono (own_below (own_below d4 b5) b6) s1, own_mono (own_below e5 b6) (by omega), own_mono (own_below (own_below o4 b5) b6) (by omega), own_mono (own_below o5 b6) (by omega), own_mono o6 (by omega),
    ap_new o1 o2, ap_new c3 o4, ap_new c4 o5, ap_new d3 o4, ap_new d4 o5, ap_new e5 o6⟩
end
end Go.Proofs.YthomnpgpbhpojaaGreat.Cd
