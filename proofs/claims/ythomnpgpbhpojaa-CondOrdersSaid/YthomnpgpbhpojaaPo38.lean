/- CondOrders: two indexes of one graph tell the same; the second one beside the first. -/
import Derived.Test.YthomnpgpbhpojaaPo35
import Derived.Test.YthomnpgpbhpojaaPo37
import Derived.Laws.Bits64
namespace Go.Proofs.Ythomnpgpbhpojaa.Cd
open Go Go.RowKit Go.MapKept Go.Proofs.Ythomnpgpbhpojaa.Mem Go.Proofs.Ythomnpgpbhpojaa.Sl Go.Proofs.Ythomnpgpbhpojaa.Scc Go.Proofs.Ythomnpgpbhpojaa.Tj Go.Proofs.Ythomnpgpbhpojaa.Lw Go.Proofs.Ythomnpgpbhpojaa.Pt
set_option linter.unusedSimpArgs false
set_option linter.unusedVariables false

section
variable {arcs arcs' : Int → Option (Int × Int)} {cls cls' : Int → Option Nat} {row row' : Nat → List Int} {vs : List Int} {es es' : List (Int × Int × Int)}
theorem Sy.swap (h : Sy arcs cls vs es) (hu : Uni es') (hm : ∀ p, p ∈ es ↔ p ∈ es') : Sy arcs cls vs es' := ⟨h.up, h.cv, hu, fun e u v => (h.ae e u v).trans (hm _), h.pi, h.en⟩
theorem Sy.arcs_eq (h : Sy arcs cls vs es) (h' : Sy arcs' cls' vs es) : arcs = arcs' := by
  funext e
  cases hx : arcs e with
  | none =>
    cases hy : arcs' e with
    | none => rfl
    | some p =>
      rw [(h.ae e p.1 p.2).2 ((h'.ae e p.1 p.2).1 hy)] at hx
      cases hx
  | some p => exact ((h'.ae e p.1 p.2).2 ((h.ae e p.1 p.2).1 hx)).symm
theorem minOf_ext {l m : List Int} (hne : l ≠ []) (hm : ∀ x, x ∈ l ↔ x ∈ m) : Lib.minOf l = Lib.minOf m := by
  have hne' : m ≠ [] := fun e => by
    obtain ⟨a, r, rfl⟩ := List.exists_cons_of_ne_nil hne
    have := (hm a).1 (by simp)
    rw [e] at this
    cases this
  obtain ⟨a1, a2⟩ := minOf_head hne
  obtain ⟨b1, b2⟩ := minOf_head hne'
  have := a2 _ ((hm _).2 b1)
  have := b2 _ ((hm _).1 a1)
  omega
theorem Sy.two_cls (h : Sy arcs cls vs es) (h' : Sy arcs' cls' vs es) {x : Int} {b b' : Nat} (hx : cls x = some b) (hy : cls' x = some b') {y : Int} (hb : cls y = some b) : cls' y = some b' := by
  have hA := h.arcs_eq h'
  subst hA
  have yn : cls y ≠ none := by rw [hb]; simp
  have yn' : cls' y ≠ none := (h'.cv y).2 ((h.cv y).1 yn)
  exact ((h'.pi x y (by rw [hy]; simp) yn').2 ((h.pi x y (by rw [hx]; simp) yn).1 (hx.trans hb.symm))).symm.trans hy
theorem Sy.two (h : Sy arcs cls vs es) (hr : RowOk cls row) (h' : Sy arcs' cls' vs es) (hr' : RowOk cls' row') (x : Int) : (cls x = none ↔ cls' x = none) ∧ mems cls row x = mems cls' row' x ∧ headV cls row x = headV cls' row' x := by
  have hn : ∀ y, cls y ≠ none ↔ cls' y ≠ none := fun y => (h.cv y).trans (h'.cv y).symm
  unfold mems headV
  cases hx : cls x with
  | none =>
    have hy : cls' x = none := Classical.byContradiction fun e => (hn x).2 e hx
    rw [hy]
    exact ⟨Iff.rfl, rfl, rfl⟩
  | some b =>
    have hy0 : cls' x ≠ none := (hn x).1 (by rw [hx]; simp)
    obtain ⟨b', hy⟩ := Option.ne_none_iff_exists'.1 hy0
    obtain ⟨h1, h2⟩ := hr x b hx
    obtain ⟨h3, h4⟩ := hr' x b' hy
    have hm : ∀ y, y ∈ row b ↔ y ∈ row' b' := fun y => by
      rw [h1, h3]
      exact ⟨fun q => h.two_cls h' hx hy q, fun q => h'.two_cls h hy hx q⟩
    have hne : row b ≠ [] := fun e => by
      have := (h1 x).2 hx
      rw [e] at this
      cases this
    rw [hy]
    refine ⟨by simp, up_ext (sorted_up h2) (sorted_up h4) fun y => ?_, minOf_ext hne hm⟩
    exact (List.mem_mergeSort).trans ((hm y).trans (List.mem_mergeSort).symm)
end

def NRow (w : World) (k : Nat) : Prop := ∀ cs T r, w.heap[k]? = some (.cells cs T r) → T ≠ 3 ∧ T ≠ 36
section
variable {w W W' : World} {gc gd gB j : Nat} {G : Gp} {lk : Int} {arcs : Int → Option (Int × Int)} {cls : Int → Option Nat} {row : Nat → List Int} {cb db : Nat → Prop} {vs vd : List Int} {es ed : List (Int × Int × Int)} {k e u v : Int} {vg : Value} {gl : List Int}
theorem nrow_off {B s n : Nat} {t : TypeId} {v : Value} {xs : List Value} {k : Nat} (hN : NRow W k) (h : W.ownsRow B t s v n xs) (ht : t = 3 ∨ t = 36) : v.ownBlock ≠ some k := fun he => by
  rcases h.2 with ⟨rfl, _⟩ | ⟨g, cap, cur, rfl, _, hh, _⟩
  · simp [Value.ownBlock] at he
  · have : g = k := by simpa [Value.ownBlock] using he
    subst this
    obtain ⟨h1, h2⟩ := hN _ _ _ hh
    rcases ht with rfl | rfl
    · exact h1 rfl
    · exact h2 rfl
theorem NRow.below {k : Nat} (h : NRow W k) (hk : k < W.heap.size) (hb : Below W.heap.size W W') : NRow W' k := fun cs T r hh => h cs T r ((hb.block k hk).symm.trans hh)
theorem cNew2 (w : World) : Calls Try.prog 5 #[] w fun e w' => ∃ gd db, e = .returned (.pointer (some ⟨gd, 0, none⟩)) ∧ CdE w' gd 0 (fun _ => none) (fun _ => none) (fun _ => []) db ∧ (∀ k, db k → w.heap.size ≤ k ∧ NRow w' k) ∧ Below w.heap.size w w' :=
  (cNew w).mono fun e w' ⟨gc, ga, go, gi, gp, gm, tg, he, hb, hc⟩ => by
    have hM : ∀ {b : Nat} {f : Int → Option Value}, MQ w' b f → NRow w' b := fun ⟨es, clock, hh, _⟩ cs T r h2 => by
      rw [hh] at h2
      cases h2
    have hA : ∀ {g : Nat} {cs : List Value} {T : TypeId}, At w' g cs T → T ≠ 3 → T ≠ 36 → NRow w' g := fun h1 a b cs T r h2 => by
      have := h1.symm.trans h2
      cases this
      exact ⟨a, b⟩
    refine ⟨gc, fun k => k = gc ∨ k = ga ∨ k = go ∨ k = gi ∨ k = gp ∨ k = gm, he, ⟨ga, go, gi, gp, gm, _, _, _, tg, _, ⟨⟨hc.m.hc, hc.m.ha, hc.m.ho, hc.m.hi, hc.m.oo, hc.m.ii, hc.m.t, hc.m.nc, hc.m.na, hc.m.no, hc.m.ni, hc.m.nob, hc.m.nib, by simp, by simp, by simp, by simp, fun v hv => absurd rfl hv, fun v hv => absurd rfl hv, fun k hk => .inr (.inr (.inr (.inr (.inr hk)))), by simp, ?_⟩, hc.p, hc.en, hc.fin⟩⟩, ?_, hb⟩
    · rintro k (rfl | rfl | rfl | rfl | rfl | rfl)
      · exact hc.m.hc.lt
      · exact hc.m.ha.lt
      · exact hc.m.ho.lt
      · exact hc.m.hi.lt
      · exact hc.p.hp.lt
      · exact hc.p.hm.lt
    · rintro k (rfl | rfl | rfl | rfl | rfl | rfl)
      · exact ⟨hc.m.cc.1, hA hc.m.hc (by decide) (by decide)⟩
      · exact ⟨hc.m.ca.1, hM hc.m.ha⟩
      · exact ⟨hc.m.co.1, hM hc.m.ho⟩
      · exact ⟨hc.m.ci.1, hM hc.m.hi⟩
      · exact ⟨hc.m.cgp.1, hA hc.p.hp (by decide) (by decide)⟩
      · exact ⟨(hc.m.cp _ hc.p.pm).1, hM hc.p.hm⟩
structure Sd (w : World) (gd : Nat) (db : Nat → Prop) (W : World) (gc gB : Nat) (j : Nat) (G : Gp) (lk : Int) (arcs : Int → Option (Int × Int)) (cls : Int → Option Nat) (row : Nat → List Int) (cb : Nat → Prop) (vs : List Int) (es : List (Int × Int × Int)) : Prop extends Sc w W gc gB j G lk arcs cls row cb vs es where
  d : CdE W gd 0 (fun _ => none) (fun _ => none) (fun _ => []) db
  nd : ∀ k, db k → ¬ cb k ∧ k ≠ gB ∧ NRow W k ∧ w.heap.size ≤ k
theorem Sd.below (h : Sd w gd db W gc gB j G lk arcs cls row cb vs es) (hb : Below W.heap.size W W') : Sd w gd db W' gc gB j G lk arcs cls row cb vs es :=
  ⟨h.toSc.below hb, h.d.below hb, fun k hk => ⟨(h.nd k hk).1, (h.nd k hk).2.1, fun cs T r hh => (h.nd k hk).2.2.1 cs T r ((hb.block k (h.d.lt k hk)).symm.trans hh), (h.nd k hk).2.2.2⟩⟩
theorem sd_new {w1 w2 w3 : World} (hC : CdE w1 gc 0 (fun _ => none) (fun _ => none) (fun _ => []) (fun k => w.heap.size ≤ k ∧ k < w1.heap.size)) (hb1 : Below w.heap.size w w1) (hD : CdE w2 gd 0 (fun _ => none) (fun _ => none) (fun _ => []) db) (hdn : ∀ k, db k → w1.heap.size ≤ k ∧ NRow w2 k) (hb2 : Below w1.heap.size w1 w2) (hb3 : Below w2.heap.size w2 w3) (hat : At w3 w2.heap.size [.slice none 0 0, .slice none 0 0, .int .i64 0, .int .i64 0] 28) :
    Sd w gd db w3 gc w2.heap.size 0 ⟨none, 0, 0, none, 0, 0, 0⟩ 0 (fun _ => none) (fun _ => none) (fun _ => []) (fun k => w.heap.size ≤ k ∧ k < w1.heap.size) [] [] := by
  have s1 := hb1.size
  have s2 := hb2.size
  have s3 := hb3.size
  exact ⟨⟨⟨(hC.below hb2).below hb3, Sy.new, ⟨World.ownsRow_nil _ _ _ _, rfl, (fun k hk => by cases hk), World.ownsRow_nil _ _ _ _, rfl, (fun k hk => by cases hk)⟩, by simp, by simp⟩, hat, fun h => by omega, fun k hk => hk.1, by omega, hb1.trans ((hb2.mono s1).trans (hb3.mono (by omega))), by simp, by simp⟩, hD.below hb3, fun k hk => ⟨fun hx => by have := (hdn k hk).1; omega, fun e => by have := hD.lt k hk; omega, (hdn k hk).2.below (hD.lt k hk) hb3, by have := (hdn k hk).1; omega⟩⟩
theorem Sd.next {w6 W7 : World} {G' : Gp} (h : Sd w gd db W gc gB j G lk arcs cls row cb vs es) (hP : PlayPost W gc lk cls row cb vs es k e u v w6 G') (hj : j < 60) (hk : Kpt (fun x => x = gB) w6 W7) (hat : At W7 gB [.slice G'.A G'.n G'.c, .slice G'.E G'.m G'.ce, .int .i64 0, .int .i64 G'.gw] 28) :
    ∃ lk' arcs' cls' row' cb' vs' es', Sd w gd db W7 gc gB (j + 1) G' lk' arcs' cls' row' cb' vs' es' := by
  obtain ⟨lk', arcs', cls', row', cb', vs', es', hS7, hcb, hK⟩ := h.toSc.next2 hP hj hk hat
  refine ⟨lk', arcs', cls', row', cb', vs', es', hS7, (h.d.kept hK fun k hk' hx => (h.nd k hk').1 hx).kept hk fun k hk' hx => (h.nd k hk').2.1 hx, fun k hk' => ?_⟩
  obtain ⟨n1, n2, n3, n4⟩ := h.nd k hk'
  have hl := h.d.lt k hk'
  refine ⟨fun hx => (hcb k hx).elim n1 fun h2 => by omega, n2, fun cs T r hh => ?_, n4⟩
  exact n3 cs T r (((hk.block k (Nat.lt_of_lt_of_le hl hK.size) n2).trans (hK.block k hl n1)).symm.trans hh)

structure Dx (w : World) (gc gd gB : Nat) (G : Gp) (lk : Int) (arcs : Int → Option (Int × Int)) (cls : Int → Option Nat) (row : Nat → List Int) (cb : Nat → Prop) (vs : List Int) (es : List (Int × Int × Int)) (W : World) (db : Nat → Prop) (vd : List Int) (ed : List (Int × Int × Int)) (vg : Value) (gl : List Int) : Prop where
  p : Pre W gc lk arcs cls row cb G vs es
  at_ : At W gB [.slice G.A G.n G.c, .slice G.E G.m G.ce, .int .i64 0, .int .i64 G.gw] 28
  q : GrO W db G vs es
  d : ∃ lkd ad cd rd, CdE W gd lkd ad cd rd db ∧ Sy ad cd vd ed
  nd : ∀ k, db k → ¬ cb k ∧ k ≠ gB ∧ w.heap.size ≤ k
  g : W.ownsRow w.heap.size 3 1 vg gl.length (ints gl)
  gg : ∀ k, vg.ownBlock = some k → ¬ cb k ∧ ¬ db k ∧ (Value.slice G.A G.n G.c).ownBlock ≠ some k
  b : Below w.heap.size w W
  lv : vs.length ≤ 60
  le : es.length ≤ 60
theorem Sd.dx (h : Sd w gd db W gc gB j G lk arcs cls row cb vs es) (hj : j ≤ 60) : Dx w gc gd gB G lk arcs cls row cb vs es W db [] [] (.slice none 0 0) [] :=
  ⟨h.p, h.at_, ⟨h.p.g.rv, h.p.g.nv, fun k hk hx => nrow_off (h.nd k hx).2.2.1 h.p.g.rv (.inl rfl) hk, h.p.g.re, h.p.g.ne, fun k hk hx => nrow_off (h.nd k hx).2.2.1 h.p.g.re (.inr rfl) hk⟩, ⟨_, _, _, _, h.d, Sy.new⟩, fun k hk => ⟨(h.nd k hk).1, (h.nd k hk).2.1, (h.nd k hk).2.2.2⟩, World.ownsRow_nil _ _ _ _, fun k hk => by simp [Value.ownBlock] at hk, h.b, Nat.le_trans h.lv hj, Nat.le_trans h.le hj⟩
theorem Dx.below (h : Dx w gc gd gB G lk arcs cls row cb vs es W db vd ed vg gl) (hb : Below W.heap.size W W') : Dx w gc gd gB G lk arcs cls row cb vs es W' db vd ed vg gl := by
  obtain ⟨lkd, ad, cd, rd, hd, hS⟩ := h.d
  exact ⟨h.p.below hb, h.at_.below hb h.at_.lt, h.q.below hb, ⟨lkd, ad, cd, rd, hd.below hb, hS⟩, h.nd, own_below h.g hb, h.gg, h.b.trans (hb.mono h.b.size), h.lv, h.le⟩
theorem Dx.step (h : Dx w gc gd gB G lk arcs cls row cb vs es W db vd ed vg gl) {lk' : Int} {ad : Int → Option (Int × Int)} {cd : Int → Option Nat} {rd : Nat → List Int} {db' : Nat → Prop} {vd' : List Int} {ed' : List (Int × Int × Int)} (hk : Kpt db W W') (hc : CdE W' gd lk' ad cd rd db') (hdb : ∀ k, db' k → ext db W W' k) (hS : Sy ad cd vd' ed') : Dx w gc gd gB G lk arcs cls row cb vs es W' db' vd' ed' vg gl := by
  have hnew : ∀ {k}, db' k → db k ∨ W.heap.size ≤ k := fun {k} hx => (hdb k hx).imp id And.left
  refine ⟨⟨h.p.c.kept hk fun k hk' hx => (h.nd k hx).1 hk', h.p.s, ⟨own_kp h.p.g.rv hk h.q.qv, h.p.g.nv, h.p.g.qv, own_kp h.p.g.re hk h.q.qe, h.p.g.ne, h.p.g.qe⟩, h.p.lv, h.p.le⟩, h.at_.kept hk fun hx => (h.nd _ hx).2.1 rfl, ⟨own_kp h.q.rv hk h.q.qv, h.q.nv, fun k e hx => ?_, own_kp h.q.re hk h.q.qe, h.q.ne, fun k e hx => ?_⟩, ⟨_, _, _, _, hc, hS⟩, fun k hx => ?_, own_kp h.g hk fun k e hx => (h.gg k e).2.1 hx, fun k e => ⟨(h.gg k e).1, fun hx => ?_, (h.gg k e).2.2⟩, h.b.trans (hk.to_below fun k hk' => ⟨Nat.lt_of_lt_of_le hk' h.b.size, fun hx => by have := (h.nd k hx).2.2; omega⟩), h.lv, h.le⟩
  · exact (hnew hx).elim (h.q.qv k e) fun h2 => by have := (h.q.rv.lt k e).2; omega
  · exact (hnew hx).elim (h.q.qe k e) fun h2 => by have := (h.q.re.lt k e).2; omega
  · refine (hnew hx).elim (h.nd k) fun h2 => ⟨fun hx => by have := h.p.c.lt k hx; omega, fun e => by have := h.at_.lt; omega, by have := h.b.size; omega⟩
  · exact (hnew hx).elim (h.gg k e).2.1 fun h2 => by have := (h.g.lt k e).2; omega
theorem Dx.push (h : Dx w gc gd gB G lk arcs cls row cb vs es W db vd ed vg gl) {vg' : Value} {gl' : List Int} (ho : W'.ownsRow w.heap.size 3 1 vg' gl'.length (ints gl')) (hg : W.grownBy W' vg.ownBlock) (hn : vg'.ownBlock = vg.ownBlock ∨ vg'.ownBlock = some W.heap.size) : Dx w gc gd gB G lk arcs cls row cb vs es W' db vd ed vg' gl' := by
  have hk : Kpt (fun k => vg.ownBlock = some k) W W' := (Kpt.refl _ W).grown hg fun k e _ => e
  obtain ⟨lkd, ad, cd, rd, hd, hS⟩ := h.d
  have hte : ∀ k, (Value.slice G.E G.m G.ce).ownBlock = some k → ¬ vg.ownBlock = some k := fun k e e2 => by
    rcases own_apart h.g h.p.g.re (by decide) with h3 | h3
    · rw [e2] at h3; cases h3
    · exact h3 (e2.trans e.symm)
  have hfar : ∀ k, cb k → ¬ vg.ownBlock = some k := fun k hx e => (h.gg k e).1 hx
  have hv : ∀ k, (Value.slice G.A G.n G.c).ownBlock = some k → ¬ vg.ownBlock = some k := fun k e e2 => (h.gg k e2).2.2 e
  refine ⟨⟨h.p.c.kept hk hfar, h.p.s, ⟨own_kp h.p.g.rv hk hv, h.p.g.nv, h.p.g.qv, own_kp h.p.g.re hk hte, h.p.g.ne, h.p.g.qe⟩, h.p.lv, h.p.le⟩, h.at_.kept hk fun e => ?_, ⟨own_kp h.q.rv hk hv, h.q.nv, h.q.qv, own_kp h.q.re hk hte, h.q.ne, h.q.qe⟩, ⟨_, _, _, _, hd.kept hk fun k hx e => (h.gg k e).2.1 hx, hS⟩, h.nd, ho, fun k e => ?_, h.b.trans (hk.to_below fun k hk' => ⟨Nat.lt_of_lt_of_le hk' h.b.size, fun e => by have := (h.g.lt k e).1; omega⟩), h.lv, h.le⟩
  · exact own_off h.g h.at_ (by decide) e.symm
  · rcases hn with h2 | h2
    · exact h.gg k (h2 ▸ e)
    · rw [h2] at e
      cases e
      exact ⟨fun hx => by have := h.p.c.lt _ hx; omega, fun hx => by have := hd.lt _ hx; omega, fun e => by have := (h.p.g.rv.lt _ e).2; omega⟩
theorem Dx.addv (h : Dx w gc gd gB G lk arcs cls row cb vs es W db vd ed vg gl) {v : Int} (hv : v ∉ vd) : Calls Try.prog 12 #[.pointer (some ⟨gd, 0, none⟩), .int .i64 v] W fun e W' => e = .returned (.bool true) ∧ ∃ db', Dx w gc gd gB G lk arcs cls row cb vs es W' db' (sorted (vd ++ [v])) ed vg gl := by
  obtain ⟨lkd, ad, cd, rd, ⟨ga, go, gi, gp, gm, ob, ib, val, tg, pb, hc⟩, hS⟩ := h.d
  exact (addv_calls hc v (aw_dead hS hv)).mono fun e' W' ⟨he, hk, ob', ib', cls', row', val', tg', pb', hnv, hc'⟩ => ⟨he, _, h.step hk ⟨_, _, _, _, _, _, _, _, _, _, hc'⟩ (fun k hk => hk) (hS.addv hv hnv)⟩
theorem Dx.adda (h : Dx w gc gd gB G lk arcs cls row cb vs es W db vd ed vg gl) {e u v : Int} (hvl : vd.length ≤ 400) (hel : ed.length ≤ 400) (he : ∀ p ∈ ed, p.1 ≠ e) (hu : u ∈ vd) (hv : v ∈ vd) : Calls Try.prog 13 #[.pointer (some ⟨gd, 0, none⟩), .int .i64 e, .int .i64 u, .int .i64 v] W fun en W' => en = .returned (.int .i64 0) ∧ ∃ db', Dx w gc gd gB G lk arcs cls row cb vs es W' db' vd (ed ++ [(e, u, v)]) vg gl := by
  obtain ⟨lkd, ad, cd, rd, ⟨ga, go, gi, gp, gm, ob, ib, val, tg, pb, hc⟩, hS⟩ := h.d
  exact (adda_calls hc vd (fun x hx => (hS.cv x).1 hx) (by omega) e u v (hS.noarc he) ((hS.cv u).2 hu) ((hS.cv v).2 hv) ⟨ed.map (·.1), by rw [List.length_map]; omega, hS.keys⟩).mono fun e' W' ⟨he1, hk, lk', cls', row', val', pb', hc', hP⟩ => ⟨he1, _, h.step hk ⟨_, _, _, _, _, _, _, _, _, _, hc'⟩ (fun k hk => hk) (hS.adda he hu hv hP)⟩
theorem Dx.dela (h : Dx w gc gd gB G lk arcs cls row cb vs es W db vd ed vg gl) {e u v : Int} (hvl : vd.length ≤ 400) (he : (e, u, v) ∈ ed) : Calls Try.prog 14 #[.pointer (some ⟨gd, 0, none⟩), .int .i64 e] W fun en W' => en = .returned (.int .i64 0) ∧ ∃ db', Dx w gc gd gB G lk arcs cls row cb vs es W' db' vd (ed.filter fun p => decide (p.1 ≠ e)) vg gl := by
  obtain ⟨lkd, ad, cd, rd, ⟨ga, go, gi, gp, gm, ob, ib, val, tg, pb, hc⟩, hS⟩ := h.d
  exact (dela_calls hc vd (fun x hx => (hS.cv x).1 hx) (by omega) e u v ((hS.ae e u v).2 he)).mono fun e' W' ⟨he1, hk, lk', cls', row', val', pb', hc', hP⟩ => ⟨he1, _, h.step hk ⟨_, _, _, _, _, _, _, _, _, _, hc'⟩ (fun k hk => hk) (hS.dela he hP)⟩
theorem Dx.at07 (h : Dx w gc gd gB G lk arcs cls row cb vs es W db vd ed vg gl) (e : Int) : Calls Try.prog 8 #[G.v, .int .i64 e] W fun en w' => en = .returned (.int .i64 (atI es e)) ∧ Below W.heap.size W w' := by
  have hg := h.p.g
  have := at_calls (gw := G.gw) W G.A G.E G.n G.c G.ce es e (RdG.of_own hg.re) (by have := h.le; omega)
  rw [hg.ne] at this
  exact this
structure Tw (w0 : World) (gc gd : Nat) (M : Int → List Int) (Hp : List Int → Prop) (Ap : List (Int × Int) → Prop) : Prop where
  m : ∀ g, g = gc ∨ g = gd → ∀ W, Below w0.heap.size w0 W → ∀ x, Calls Try.prog 9 #[.pointer (some ⟨g, 0, none⟩), .int .i64 x] W fun e W' => ∃ u, e = .returned u ∧ W'.ownsRow W.heap.size 3 1 u (M x).length (ints (M x)) ∧ Below W.heap.size W W'
  h : ∀ g, g = gc ∨ g = gd → ∀ W, Below w0.heap.size w0 W → Calls Try.prog 16 #[.pointer (some ⟨g, 0, none⟩)] W fun e W' => ∃ u l, e = .returned u ∧ W'.ownsRow W.heap.size 3 1 u l.length (ints l) ∧ Below W.heap.size W W' ∧ Hp l
  a : ∀ g, g = gc ∨ g = gd → ∀ W, Below w0.heap.size w0 W → Calls Try.prog 18 #[.pointer (some ⟨g, 0, none⟩)] W fun e W' => ∃ u l, e = .returned u ∧ W'.ownsRow W.heap.size 69 2 u l.length (arcs2 l) ∧ Below W.heap.size W W' ∧ Ap l
  hu : ∀ l l', Hp l → Hp l' → l = l'
  au : ∀ l l', Ap l → Ap l' → l = l'
  ml : ∀ x, (M x).length ≤ 400
  hl : ∀ l, Hp l → l.length ≤ 400
  al : ∀ l, Ap l → l.length ≤ 1000
theorem rowOk_le (hr : RowOk cls row) (hS : Sy arcs cls vs es) (hv : vs.length ≤ 60) : ∀ v b, cls v = some b → (row b).length ≤ 60 := fun v b hvb => by
  obtain ⟨h1, h2⟩ := hr v b hvb
  exact Nat.le_trans (nodup_le h2 fun x hx => (hS.cv x).1 (by rw [(h1 x).1 hx]; simp)) hv
theorem tw_one {w0 : World} {g : Nat} (hE : CdE w0 g lk arcs cls row cb) (hS : Sy arcs cls vs es) (hv : vs.length ≤ 60) :
    (∀ W, Below w0.heap.size w0 W → ∀ x, Calls Try.prog 9 #[.pointer (some ⟨g, 0, none⟩), .int .i64 x] W fun e W' => ∃ u, e = .returned u ∧ W'.ownsRow W.heap.size 3 1 u (mems cls row x).length (ints (mems cls row x)) ∧ Below W.heap.size W W') ∧
    (∀ W, Below w0.heap.size w0 W → Calls Try.prog 16 #[.pointer (some ⟨g, 0, none⟩)] W fun e W' => ∃ u l, e = .returned u ∧ W'.ownsRow W.heap.size 3 1 u l.length (ints l) ∧ Below W.heap.size W W' ∧ l.Pairwise (· < ·) ∧ ∀ y, y ∈ l ↔ cls y ≠ none ∧ headV cls row y = y) ∧
    (∀ W, Below w0.heap.size w0 W → Calls Try.prog 18 #[.pointer (some ⟨g, 0, none⟩)] W fun e W' => ∃ u l, e = .returned u ∧ W'.ownsRow W.heap.size 69 2 u l.length (arcs2 l) ∧ Below W.heap.size W W' ∧ l.Pairwise alt ∧ l.length ≤ 1000 ∧ ∀ x, x ∈ l ↔ ∃ e a b, arcs e = some (a, b) ∧ x = (headV cls row a, headV cls row b) ∧ headV cls row a ≠ headV cls row b) := by
  have hro := hE.rowOk
  have hle := rowOk_le hro hS hv
  obtain ⟨ga, go, gi, gp, gm, ob, ib, val, tg, pb, hc⟩ := hE
  refine ⟨fun W hb x => cMembers (hc.below hb) x fun v b hvb => by have := hle v b hvb; omega, fun W hb => cHeads (hc.below hb) vs (fun x hx => (hS.cv x).1 hx) (by omega), fun W hb => cArcs (hc.below hb) fun v b hvb => by have := hle v b hvb; omega⟩
theorem Dx.tw (h : Dx w gc gd gB G lk arcs cls row cb vs es W db vs ed vg gl) (hm : ∀ p, p ∈ ed ↔ p ∈ es) : ∃ M Hp Ap, Tw W gc gd M Hp Ap := by
  obtain ⟨lkd, ad, cd, rd, hE, hS'⟩ := h.d
  have hS := hS'.swap h.p.s.un hm
  have hA := h.p.s.arcs_eq hS
  subst hA
  have h2 := fun x => h.p.s.two h.p.c.rowOk hS hE.rowOk x
  have hv := h.lv
  obtain ⟨m1, h1, a1⟩ := tw_one h.p.c h.p.s hv
  obtain ⟨m2, hh2, a2⟩ := tw_one hE hS hv
  refine ⟨mems cls row, fun l => l.Pairwise (· < ·) ∧ ∀ y, y ∈ l ↔ cls y ≠ none ∧ headV cls row y = y, fun l => l.Pairwise alt ∧ l.length ≤ 1000 ∧ ∀ x, x ∈ l ↔ ∃ e a b, arcs e = some (a, b) ∧ x = (headV cls row a, headV cls row b) ∧ headV cls row a ≠ headV cls row b, ⟨fun g hg W hb x => ?_, fun g hg W hb => ?_, fun g hg W hb => ?_, fun l l' q q' => up_ext q.1 q'.1 fun x => (q.2 x).trans (q'.2 x).symm, fun l l' q q' => alt_ext q.1 q'.1 fun x => (q.2.2 x).trans (q'.2.2 x).symm, fun x => ?_, fun l q => ?_, fun l q => q.2.1⟩⟩
  · rcases hg with rfl | rfl
    · exact m1 W hb x
    · rw [(h2 x).2.1]
      exact m2 W hb x
  · rcases hg with rfl | rfl
    · exact h1 W hb
    · refine (hh2 W hb).mono fun e W' ⟨u, l, q1, q2, q3, q4, q5⟩ => ⟨u, l, q1, q2, q3, q4, fun y => ?_⟩
      rw [q5, (h2 y).2.2]
      exact and_congr (not_congr (h2 y).1.symm) Iff.rfl
  · rcases hg with rfl | rfl
    · exact a1 W hb
    · refine (a2 W hb).mono fun e W' ⟨u, l, q1, q2, q3, q4, q5, q6⟩ => ⟨u, l, q1, q2, q3, q4, q5, fun y => ?_⟩
      simp only [q6, (h2 _).2.2]
  · unfold mems
    cases hx : cls x with
    | none => simp
    | some b => rw [sorted_length]; have := rowOk_le h.p.c.rowOk h.p.s hv x b hx; omega
  · have h3 : l.Nodup := nodup_of_up q.1
    have := nodup_le h3 fun x hx => (h.p.s.cv x).1 ((q.2 x).1 hx).1
    omega
theorem sameO {W : World} {B B' n c c' : Nat} {A A' : Option Addr} {M : List Int} (h1 : W.ownsRow B 3 1 (.slice A n c) M.length (ints M)) (h2 : W.ownsRow B' 3 1 (.slice A' n c') M.length (ints M)) (hn : M.length = n) (hl : M.length ≤ 400) : Calls Try.prog 15 #[.slice A n c, .slice A' n c'] W fun e w' => e = .returned (.bool true) ∧ Below W.heap.size W w' := by
  subst hn
  exact (sameInts_calls W A A' c c' M M (RdI.of_own h1).1 (RdI.of_own h2).1 (by omega)).mono fun e W' ⟨he, q, hw⟩ => ⟨by rw [he]; simp, hw ▸ Below.drN (Below.refl _ _) q⟩
theorem sameOA {W : World} {B B' n c c' : Nat} {A A' : Option Addr} {M : List (Int × Int)} (h1 : W.ownsRow B 69 2 (.slice A n c) M.length (arcs2 M)) (h2 : W.ownsRow B' 69 2 (.slice A' n c') M.length (arcs2 M)) (hn : M.length = n) (hl : M.length ≤ 1000) : Calls Try.prog 17 #[.slice A n c, .slice A' n c'] W fun e w' => e = .returned (.bool true) ∧ Below W.heap.size W w' := by
  subst hn
  exact sameArcs_calls W A A' c c' M (RdA.of_own h1).1 (RdA.of_own h2).1 hl
theorem md_ex (n : Nat) (x : Int) (hn : 0 < n) : ∃ m : Nat, (IntKind.u64.wrap x).tmod (n : Int) = (m : Int) ∧ m < n := by
  have h0 : 0 ≤ IntKind.u64.wrap x := by rw [IntKind.wrap_u64]; omega
  have h1 : 0 ≤ (IntKind.u64.wrap x).tmod (n : Int) := by rw [Int.tmod_eq_emod_of_nonneg h0]; exact Int.emod_nonneg _ (by omega)
  have h2 : (IntKind.u64.wrap x).tmod (n : Int) < n := by rw [Int.tmod_eq_emod_of_nonneg h0]; exact Int.emod_lt_of_pos _ (by omega)
  exact ⟨((IntKind.u64.wrap x).tmod (n : Int)).toNat, by omega, by omega⟩
end
end Go.Proofs.Ythomnpgpbhpojaa.Cd
