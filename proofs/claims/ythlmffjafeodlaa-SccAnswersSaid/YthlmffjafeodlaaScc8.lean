/- scc.Order: what lies in memory while it runs. -/
import Derived.Test.YthlmffjafeodlaaScc7
import Derived.Test.YthlmffjafeodlaaTj
import Derived.Test.YthlmffjafeodlaaHp7
namespace Go.Proofs.Ythlmffjafeodlaa.Scc
open Go Go.RowKit Go.Proofs.Ythlmffjafeodlaa.Mem Go.Proofs.Ythlmffjafeodlaa.Tj Go.Proofs.Ythlmffjafeodlaa.Sl Go.Proofs.YthlmffjafeodlaaW.PrintWords Go.Proofs.YthlmffjafeodlaaW.PrintLast
attribute [local go_sem ↓] Go.wp_at_zero Go.wp_at_succ
set_option linter.unusedSimpArgs false
set_option linter.unusedVariables false

/-- Where the three lists lie: behind a, ahead of a + 3. -/
structure OL (a bh bi bo : Nat) : Prop where
  h0 : a ≤ bh
  h1 : bh < a + 3
  i0 : a ≤ bi
  i1 : bi < a + 3
  o0 : a ≤ bo
  o1 : bo < a + 3
  n1 : bh ≠ bi
  n2 : bh ≠ bo
  n3 : bi ≠ bo

/-- Heads, arcs into, rows of arcs out, among m components; a: the heap's size ahead of them. -/
structure OA (w2 : World) (a bh bi bo m : Nat) (vals : List Value) (head : List Int) (into : List Nat) (outs : List (List Nat)) (W : World) : Prop where
  hh : At W bh (ints head) 3
  hi : At W bi (nats into) 3
  ho : Rws W (a + 3) bo m vals outs
  hb : Below a w2 W
  lh : head.length = m
  li : into.length = m
  hs : a + 3 ≤ W.heap.size

theorem own_max {w : World} {base : Nat} {e : TypeId} {size n : Nat} {v : Value} {xs : List Value} (h : w.ownsRow base e size v n xs) : n ≤ 9223372036854775807 := by
  rcases h.2 with ⟨_, h0⟩ | ⟨_, cap, _, _, _, _, h1, h2, _⟩
  · omega
  · simp [maxLen] at h2; omega

def OStart (w2 : World) (a m : Nat) (v10 v11 v12 : Value) (W : World) : Prop :=
  ∃ bh bi bo, v10 = .slice (some ⟨bh, 0, none⟩) m m ∧ v11 = .slice (some ⟨bi, 0, none⟩) m m ∧ v12 = .slice (some ⟨bo, 0, none⟩) m m ∧ OL a bh bi bo ∧
    OA w2 a bh bi bo m (List.replicate m (.slice none 0 0)) (List.replicate m 0) (List.replicate m 0) (List.replicate m []) W

theorem made_ints (n : Nat) : (madeCells #[.int .i64 0] n).toList = ints (List.replicate n 0) := by rw [toList_madeCells_one]; simp [ints]

theorem Rws.start {w : World} {base bo n : Nat} (h : At w bo (List.replicate n (.slice none 0 0)) 22) : Rws w base bo n (List.replicate n (.slice none 0 0)) (List.replicate n []) := by
  refine ⟨h, by simp, by simp, ?_, ?_⟩
  · intro u v r e1 e2
    rw [List.getElem?_replicate] at e1 e2
    split at e1
    · cases e1
      rw [if_pos (by assumption)] at e2
      cases e2
      exact World.ownsRow_nil _ _ _ _
    · cases e1
  · intro u u' v v' _ e1 _
    rw [List.getElem?_replicate] at e1
    split at e1
    · cases e1; left; rfl
    · cases e1

theorem mk_ostart {w2 W : World} {m bh bi bo : Nat} (h1 : At W bh (ints (List.replicate m 0)) 3) (h2 : At W bi (nats (List.replicate m 0)) 3) (h3 : At W bo (List.replicate m (.slice none 0 0)) 22)
    (hl : w2.heap.size ≤ bh ∧ bh < w2.heap.size + 3 ∧ w2.heap.size ≤ bi ∧ bi < w2.heap.size + 3 ∧ w2.heap.size ≤ bo ∧ bo < w2.heap.size + 3) (hd : bh ≠ bi ∧ bh ≠ bo ∧ bi ≠ bo)
    (hb : Below w2.heap.size w2 W) (hs : w2.heap.size + 3 ≤ W.heap.size) : OStart w2 w2.heap.size m (.slice (some ⟨bh, 0, none⟩) m m) (.slice (some ⟨bi, 0, none⟩) m m) (.slice (some ⟨bo, 0, none⟩) m m) W :=
  ⟨bh, bi, bo, rfl, rfl, rfl, ⟨hl.1, hl.2.1, hl.2.2.1, hl.2.2.2.1, hl.2.2.2.2.1, hl.2.2.2.2.2, hd.1, hd.2.1, hd.2.2⟩, h1, h2, Rws.start h3, hb, by simp, by simp, hs⟩

/-- A store of a number beside the rows. -/
theorem Rws.setB {w : World} {base bo n : Nat} {vals : List Value} {out : List (List Nat)} (h : Rws w base bo n vals out) {g i : Nat} (hg : g < base) (hne : bo ≠ g) (u : Value) : Rws (w.setCell ⟨g, i, none⟩ u) base bo n vals out :=
  ⟨h.hat.off hne, h.lv, h.lo, fun k v r h1 h2 => (h.own k v r h1 h2).setB hg, h.apart⟩

section
variable {w2 W : World} {a bh bi bo m : Nat} {vals : List Value} {head : List Int} {into : List Nat} {outs : List (List Nat)}
theorem OA.drewN (h : OA w2 a bh bi bo m vals head into outs W) (k : Nat) : OA w2 a bh bi bo m vals head into outs (W.drewN k) :=
  ⟨h.hh, h.hi, ⟨h.ho.hat, h.ho.lv, h.ho.lo, h.ho.own, h.ho.apart⟩, ⟨h.hb.os, h.hb.tape, h.hb.output, h.hb.size, h.hb.block⟩, h.lh, h.li, h.hs⟩
theorem OA.drew (h : OA w2 a bh bi bo m vals head into outs W) : OA w2 a bh bi bo m vals head into outs W.drew := h.drewN 1
theorem OA.below (h : OA w2 a bh bi bo m vals head into outs W) (L : OL a bh bi bo) {W' : World} (hb : Below W.heap.size W W') : OA w2 a bh bi bo m vals head into outs W' :=
  ⟨h.hh.below hb h.hh.lt, h.hi.below hb h.hi.lt, h.ho.below hb, h.hb.trans (hb.mono (by have := h.hs; omega)), h.lh, h.li, Nat.le_trans h.hs hb.size⟩
theorem OA.setHead (h : OA w2 a bh bi bo m vals head into outs W) (L : OL a bh bi bo) (c : Nat) (x : Int) : OA w2 a bh bi bo m vals (head.set c x) into outs (W.setCell ⟨bh, c, none⟩ (.int .i64 x)) :=
  ⟨h.hh.put (ints_set _ _ _).symm, h.hi.off L.n1.symm, h.ho.setB L.h1 L.n2.symm _, h.hb.setCell L.h0 _, by simpa using h.lh, h.li, by have := h.hs; simpa using this⟩
theorem OA.setInto (h : OA w2 a bh bi bo m vals head into outs W) (L : OL a bh bi bo) (c x : Nat) : OA w2 a bh bi bo m vals head (into.set c x) outs (W.setCell ⟨bi, c, none⟩ (.int .i64 (x : Int))) :=
  ⟨h.hh.off L.n1, h.hi.put (nats_set _ _ _).symm, h.ho.setB L.i1 L.n3.symm _, h.hb.setCell L.i0 _, h.lh, by simpa using h.li, by have := h.hs; simpa using this⟩
end

def VRel (w2 : World) (a bh bi bo m : Nat) (comp : List Nat) (sl : List Int) (out : List (List Nat)) (R : List Int × List Nat × List (List Nat)) (k : Nat) (W : World) : Prop :=
  ∃ vals head into outs, vertsO comp sl out k head into outs = some R ∧ OA w2 a bh bi bo m vals head into outs W
def RRel (w2 : World) (a bh bi bo m c : Nat) (comp row : List Nat) (head : List Int) (R : List Nat × List (List Nat)) (j : Nat) (W : World) : Prop :=
  ∃ vals into outs, rowO comp c (row.drop j) into outs = some R ∧ OA w2 a bh bi bo m vals head into outs W

/-- .. and the heap, behind b. -/
structure OK (a b base hb mb : Nat) (vals : List Value) : Prop where
  ab : a + 3 ≤ b
  bh : b ≤ hb
  bm : b ≤ mb
  bb : b ≤ base
  low : ∀ (u : Nat) (v : Value) (k : Nat), vals[u]? = some v → v.ownBlock = some k → k < b

structure OC (w2 : World) (a bh bi bo m base hb mb : Nat) (vals : List Value) (head : List Int) (into : List Nat) (outs : List (List Nat)) (rs : List Nat) (came : Nat) (W : World) : Prop where
  oa : OA w2 a bh bi bo m vals head into outs W
  q : Hp.HQ W base hb mb rs came
  hs : base ≤ W.heap.size

section
variable {w2 W W' : World} {a b bh bi bo m base hb mb came came' : Nat} {vals : List Value} {head : List Int} {into rs rs' : List Nat} {outs : List (List Nat)}
theorem OC.drewN (h : OC w2 a bh bi bo m base hb mb vals head into outs rs came W) (k : Nat) : OC w2 a bh bi bo m base hb mb vals head into outs rs came (W.drewN k) := ⟨h.oa.drewN k, h.q.drewN k, h.hs⟩
theorem OC.keep (h : OC w2 a bh bi bo m base hb mb vals head into outs rs came W) (L : OL a bh bi bo) (K : OK a b base hb mb vals) (hk : Hp.KeepQ b W W') (hq : Hp.HQ W' base hb mb rs' came') : OC w2 a bh bi bo m base hb mb vals head into outs rs' came' W' := by
  have hab := K.ab
  refine ⟨⟨h.oa.hh.below hk.1 (by have := L.h1; omega), h.oa.hi.below hk.1 (by have := L.i1; omega), ⟨h.oa.ho.hat.below hk.1 (by have := L.o1; omega), h.oa.ho.lv, h.oa.ho.lo, fun u v r h1 h2 => hk.2 _ _ _ _ (h.oa.ho.own u v r h1 h2), h.oa.ho.apart⟩,
    h.oa.hb.trans (hk.1.mono (by omega)), h.oa.lh, h.oa.li, Nat.le_trans h.oa.hs hk.1.size⟩, hq, Nat.le_trans h.hs hk.1.size⟩
theorem OC.setInto (h : OC w2 a bh bi bo m base hb mb vals head into outs rs came W) (L : OL a bh bi bo) (K : OK a b base hb mb vals) (c x : Nat) : OC w2 a bh bi bo m base hb mb vals head (into.set c x) outs rs came (W.setCell ⟨bi, c, none⟩ (.int .i64 (x : Int))) :=
  ⟨h.oa.setInto L c x, h.q.setB K.bh K.bm (by have := L.i1; have := K.ab; omega) _, by have := h.hs; simpa using this⟩
theorem OC.al (h : OC w2 a bh bi bo m base hb mb vals head into outs rs came W) (L : OL a bh bi bo) (o : Obj) : OC w2 a bh bi bo m base hb mb vals head into outs rs came (W.alloc o) :=
  ⟨h.oa.below L ((Below.refl _ _).alloc (Nat.le_refl _) o), h.q.al o, by have := h.hs; simp; omega⟩
theorem OC.grown (h : OC w2 a bh bi bo m base hb mb vals head into outs rs came W) (L : OL a bh bi bo) (K : OK a b base hb mb vals) {n : Nat} {v : Value} {xs : List Value} (ho : W.ownsRow base 3 1 v n xs) (hg : W.grownBy W' v.ownBlock) : OC w2 a bh bi bo m base hb mb vals head into outs rs came W' := by
  have hab := K.ab
  have hbb := K.bb
  refine ⟨⟨h.oa.hh.grown hg (own_under ho (by have := L.h1; omega)), h.oa.hi.grown hg (own_under ho (by have := L.i1; omega)), ⟨h.oa.ho.hat.grown hg (own_under ho (by have := L.o1; omega)), h.oa.ho.lv, h.oa.ho.lo, fun u v' r h1 h2 => (h.oa.ho.own u v' r h1 h2).kept hg ?_, h.oa.ho.apart⟩,
    h.oa.hb.grown hg (by have := h.oa.hs; omega) (fun k hk => by have := (ho.lt k hk).1; omega), h.oa.lh, h.oa.li, Nat.le_trans h.oa.hs hg.size⟩, h.q.grown ho hg, Nat.le_trans h.hs hg.size⟩
  cases hv : v'.ownBlock with
  | none => exact Or.inl rfl
  | some k =>
    right
    intro he
    have h3 := K.low u v' k h1 hv
    have h4 := (ho.lt k he.symm).1
    omega
end

def SRel (w2 : World) (a bh bi bo m base hb mb : Nat) (vals : List Value) (head : List Int) (into : List Nat) (outs : List (List Nat)) (R : List Nat × Nat) (k c : Nat) (W : World) : Prop :=
  ∃ rs came, seedO into k c rs came = some R ∧ rs.Pairwise (· < ·) ∧ OC w2 a bh bi bo m base hb mb vals head into outs rs came W

def LRel (w2 : World) (a bh bi bo m base hb mb : Nat) (vals : List Value) (head : List Int) (outs : List (List Nat)) (T : List Int) (k : Nat) (v18 v19 v21 : Value) (W : World) : Prop :=
  ∃ into rs came told, loopO head outs k into rs came told = some T ∧ rs.Pairwise (· < ·) ∧ v21 = .bool (!rs.isEmpty) ∧ (∃ c : Nat, v19 = .int .i64 (c : Int) ∧ c = rs.headD 0) ∧
    OC w2 a bh bi bo m base hb mb vals head into outs rs.tail came W ∧ W.ownsRow base 3 1 v18 told.length (ints told)

def FRel (w2 : World) (a bh bi bo m base hb mb : Nat) (vals : List Value) (head : List Int) (outs : List (List Nat)) (row : List Nat) (told : List Int) (v18 : Value) (R : List Nat × List Nat × Nat) (j : Nat) (W : World) : Prop :=
  ∃ into rs came, freeO (row.drop j) into rs came = some R ∧ rs.Pairwise (· < ·) ∧ OC w2 a bh bi bo m base hb mb vals head into outs rs came W ∧ W.ownsRow base 3 1 v18 told.length (ints told)

end Go.Proofs.Ythlmffjafeodlaa.Scc
