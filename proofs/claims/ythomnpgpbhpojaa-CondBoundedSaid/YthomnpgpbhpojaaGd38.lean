/- CondBounded. -/
import Derived.Test.YthomnpgpbhpojaaGd37
import Derived.Test.YthomnpgpbhpojaaRows
import Derived.ProofKit
import Derived.OpenShut
import Derived.Carry
import Derived.Deep.SlicePairs
namespace Go.Proofs.Ythomnpgpbhpojaa.Cd
open Go Go.RowKit Go.MapKept Go.Proofs.Ythomnpgpbhpojaa.Mem Go.Proofs.Ythomnpgpbhpojaa.Sl Go.Proofs.Ythomnpgpbhpojaa.Scc Go.Proofs.Ythomnpgpbhpojaa.Tj Go.Proofs.Ythomnpgpbhpojaa.Lw Go.Proofs.Ythomnpgpbhpojaa.Pt Go.Proofs.YthomnpgpbhpojaaW.PrintWords Go.Proofs.YthomnpgpbhpojaaW.PrintLast
attribute [local go_sem ↓] Go.wp_at_zero Go.wp_at_succ
set_option linter.unusedSimpArgs false
set_option linter.unusedVariables false

theorem add_add {ad : Addr} (x k : Nat) (hk : k ≠ 0) : ad.add (x + k) = ⟨(ad.add x).block, (ad.add x).off + k, none⟩ := by
  unfold Addr.add
  rw [if_neg (by omega)]
  by_cases h : x = 0
  · subst h
    simp
  · simp [h, Nat.add_assoc]
def RdO (w : World) (A : Option Addr) (l : List (Int × Int × Int × Int)) : Prop := ∀ (j : Nat) (k e u v : Int), l[j]? = some (k, e, u, v) → ∃ ad : Addr, A = some ad ∧ w.cell? (ad.add (j * 4)) = some (.int .i64 k) ∧ w.cell? ⟨(ad.add (j * 4)).block, (ad.add (j * 4)).off + 1, none⟩ = some (.int .i64 e) ∧ w.cell? ⟨(ad.add (j * 4)).block, (ad.add (j * 4)).off + 2, none⟩ = some (.int .i64 u) ∧ w.cell? ⟨(ad.add (j * 4)).block, (ad.add (j * 4)).off + 3, none⟩ = some (.int .i64 v)
theorem cell_keep {w w' : World} {a : Addr} {v : Value} (hb : Below w.heap.size w w') (h : w.cell? a = some v) : w'.cell? a = some v := (hb.cell (World.block_lt_of_cell? w _ h)).trans h
theorem RdO.below {w w' : World} {A : Option Addr} {l : List (Int × Int × Int × Int)} (h : RdO w A l) (hb : Below w.heap.size w w') : RdO w' A l := fun j k e u v hx => by
  obtain ⟨ad, h1, h2, h3, h4, h5⟩ := h j k e u v hx
  exact ⟨ad, h1, cell_keep hb h2, cell_keep hb h3, cell_keep hb h4, cell_keep hb h5⟩
structure Sc (w W : World) (gc gB : Nat) (j : Nat) (G : Gp) (lk : Int) (arcs : Int → Option (Int × Int)) (cls : Int → Option Nat) (row : Nat → List Int) (cb : Nat → Prop) (vs : List Int) (es : List (Int × Int × Int)) : Prop where
  p : Pre W gc lk arcs cls row cb G vs es
  at_ : At W gB [.slice G.A G.n G.c, .slice G.E G.m G.ce, .int .i64 0, .int .i64 G.gw] 28
  nb : ¬ cb gB
  ge : ∀ k, cb k → w.heap.size ≤ k
  gb : w.heap.size ≤ gB
  b : Below w.heap.size w W
  lv : vs.length ≤ j
  le : es.length ≤ j
section
variable {w W W' : World} {gc gB j : Nat} {G : Gp} {lk : Int} {arcs : Int → Option (Int × Int)} {cls : Int → Option Nat} {row : Nat → List Int} {cb : Nat → Prop} {vs : List Int} {es : List (Int × Int × Int)}
theorem Sc.below (h : Sc w W gc gB j G lk arcs cls row cb vs es) (hb : Below W.heap.size W W') : Sc w W' gc gB j G lk arcs cls row cb vs es :=
  ⟨h.p.below hb, h.at_.below hb h.at_.lt, h.nb, h.ge, h.gb, h.b.trans (hb.mono h.b.size), h.lv, h.le⟩
theorem Sc.looked (h : Sc w W gc gB j G lk arcs cls row cb vs es) : Calls Try.prog 7 #[.pointer (some ⟨gc, 0, none⟩)] W fun e w' => e = .returned (.int .i64 lk) ∧ w' = W := by
  obtain ⟨ga, go, gi, gp, gm, ob, ib, val, tg, pb, hc⟩ := h.p.c
  exact cLooked hc
end
structure Ro (w W : World) (gc gB gO : Nat) (j : Nat) (G : Gp) (lk : Int) (arcs : Int → Option (Int × Int)) (cls : Int → Option Nat) (row : Nat → List Int) (cb : Nat → Prop) (vs : List Int) (es : List (Int × Int × Int)) (k e u v : Int) : Prop where
  s : Sc w W gc gB j G lk arcs cls row cb vs es
  o : At W gO [.int .i64 k, .int .i64 e, .int .i64 u, .int .i64 v] 32
  no : ¬ cb gO
section
variable {w W W' : World} {gc gB gO j : Nat} {G : Gp} {lk : Int} {arcs : Int → Option (Int × Int)} {cls : Int → Option Nat} {row : Nat → List Int} {cb : Nat → Prop} {vs : List Int} {es : List (Int × Int × Int)} {k e u v : Int}
theorem Ro.below (h : Ro w W gc gB gO j G lk arcs cls row cb vs es k e u v) (hb : Below W.heap.size W W') : Ro w W' gc gB gO j G lk arcs cls row cb vs es k e u v := ⟨h.s.below hb, h.o.below hb h.o.lt, h.no⟩
theorem Sc.ro (h : Sc w W gc gB j G lk arcs cls row cb vs es) : Ro w (W.alloc (.cells #[.int .i64 k, .int .i64 e, .int .i64 u, .int .i64 v] 32)) gc gB W.heap.size j G lk arcs cls row cb vs es k e u v :=
  ⟨h.below ((Below.refl _ _).alloc (Nat.le_refl _) _), At.made rfl rfl, fun hx => by have := h.p.c.lt _ hx; omega⟩
theorem Ro.at_ (h : Ro w W gc gB gO j G lk arcs cls row cb vs es k e u v) : Calls Try.prog 8 #[G.v, .int .i64 e] W fun en w' => en = .returned (.int .i64 (atI es e)) ∧ Below W.heap.size W w' := by
  have hg := h.s.p.g
  have := at_calls (gw := G.gw) W G.A G.E G.n G.c G.ce es e (RdG.of_own hg.re) (by have := h.s.p.le; omega)
  rw [hg.ne] at this
  exact this
theorem Ro.mem (h : Ro w W gc gB gO j G lk arcs cls row cb vs es k e u v) (x : Int) : Calls Try.prog 9 #[.pointer (some ⟨gc, 0, none⟩), .int .i64 x] W fun en w' => ∃ um, en = .returned um ∧ w'.ownsRow W.heap.size 3 1 um (mems cls row x).length (ints (mems cls row x)) ∧ Below W.heap.size W w' := by
  have hrl : ∀ v b, cls v = some b → (row b).length ≤ 500000 := fun v b hv => Nat.le_trans (h.s.p.rowle v b hv) (by omega)
  obtain ⟨ga, go, gi, gp, gm, ob, ib, val, tg, pb, hc⟩ := h.s.p.c
  exact cMembers hc x hrl
theorem Ro.same (h : Ro w W gc gB gO j G lk arcs cls row cb vs es k e u v) (x y : Int) : Calls Try.prog 10 #[.pointer (some ⟨gc, 0, none⟩), .int .i64 x, .int .i64 y] W fun en w' => en = .returned (.bool (sameV cls x y)) ∧ Below W.heap.size W w' := by
  obtain ⟨ga, go, gi, gp, gm, ob, ib, val, tg, pb, hc⟩ := h.s.p.c
  exact cSame hc x y
theorem Ro.ml (h : Ro w W gc gB gO j G lk arcs cls row cb vs es k e u v) (x : Int) : (mems cls row x).length ≤ 400 := by
  unfold mems
  cases hx : cls x with
  | none => simp
  | some b => rw [sorted_length]; exact h.s.p.rowle x b hx
theorem Ro.next {w6 W7 : World} {G' : Gp} (h : Ro w W gc gB gO j G lk arcs cls row cb vs es k e u v) (hP : PlayPost W gc lk cls row cb vs es k e u v w6 G') (hj : j < 60) (hk : Kpt (fun x => x = gB) w6 W7) (hat : At W7 gB [.slice G'.A G'.n G'.c, .slice G'.E G'.m G'.ce, .int .i64 0, .int .i64 G'.gw] 28) :
    ∃ lk' arcs' cls' row' cb' vs' es', Ro w W7 gc gB gO (j + 1) G' lk' arcs' cls' row' cb' vs' es' k e u v ∧ Bnd k e u v vs es es' cls row lk lk' := by
  obtain ⟨vs', es', lk', arcs', cls', row', cb', hC, hS, hG, hK, hcb, hl1, hl2, hB⟩ := hP
  have hne : gO ≠ gB := h.o.ne h.s.at_ (by decide)
  have hcb' : ∀ x, cb' x → cb x ∨ (W.heap.size ≤ x ∧ x < w6.heap.size) := hcb
  have hno : ∀ x, x < W.heap.size → ¬ cb x → ¬ cb' x := fun x hx hn hc => (hcb' x hc).elim hn fun h => by omega
  have hg6 : At w6 gB _ _ := h.s.at_.kept hK h.s.nb
  have hnB := hno gB h.s.at_.lt h.s.nb
  have hlv := h.s.lv
  have hle := h.s.le
  have hgq : GrO w6 (fun x => cb' x ∨ x = gB) G' vs' es' := ⟨hG.rv, hG.nv, fun x hx hq => hq.elim (hG.qv x hx) fun e => own_off hG.rv hg6 (by decide) (e ▸ hx.symm), hG.re, hG.ne, fun x hx hq => hq.elim (hG.qe x hx) fun e => own_off hG.re hg6 (by decide) (e ▸ hx.symm)⟩
  have hB7 : Below w.heap.size w W7 := ((h.s.b).trans (hK.to_below fun k hk => ⟨Nat.lt_of_lt_of_le hk h.s.b.size, fun hx => by have := h.s.ge k hx; omega⟩)).trans (hk.to_below fun k hk => ⟨by have := h.s.b.size; have := hK.size; omega, fun hx => by have := h.s.gb; omega⟩)
  refine ⟨lk', arcs', cls', row', cb', vs', es', ⟨⟨⟨hC.kept hk fun x hx e => hnB (e ▸ hx), hS, (hgq.kept hk fun x hx => .inr hx).mono fun x _ hx => .inl hx, by omega, by omega⟩, hat, hnB, fun x hx => (hcb' x hx).elim (h.s.ge x) fun h2 => by have := h.s.b.size; omega, h.s.gb, hB7, by omega, by omega⟩, ?_, hno gO h.o.lt h.no⟩, hB⟩
  exact (h.o.kept hK h.no).kept hk hne
end
def tb3_12.T12 : Bool × List (List Nat × List Nat) := (true, [([], []), ([0], [0]), ([], []), ([1, 2], [1, 2]), ([3], [3]), ([4], [4]), ([], []), ([6], [6]), ([], []), ([7, 8], [7, 8]), ([9], [9]), ([10], [10]), ([5, 0, 1, 2, 3, 4, 5], [5]), ([11, 12, 0, 1, 2, 3, 4, 5, 6, 7, 8, 9, 10, 11, 12], [11])])
def tb3_12.B12 : List Nat := [0, 1, 0, 7, 15, 31, 0, 64, 0, 448, 960, 1984, 63, 8191]
theorem tb3_12.tab12 : rtab .any (opsOf Try.f3 12) = tb3_12.T12 := by kernel_rfl
theorem tb3_12.bits12 : waitsOk tb3_12.T12.2 tb3_12.B12 = true := by kernel_rfl
set_option maxHeartbeats 8000000 in
set_option maxRecDepth 100000 in
theorem condBounded_calls (w : World) (A : Option Addr) (c : Nat) (s : List (Int × Int × Int × Int)) (hrd : RdO w A s) :
    Calls Try.prog 3 #[.slice A s.length c] w fun e w' => e = .returned (.bool true) ∧ Below w.heap.size w w' := by
  obtain ⟨n, hn⟩ : ∃ n, s.length = n := ⟨_, rfl⟩
  rw [hn]
  have HS := Lib.hid (And.intro hn hrd)
  have HN := Lib.hid (aw_new w)
  clear hrd hn
  go_enter Try.func3, Try.ntmps3
  go_wp2_with fail
  refine HN.out.mono ?_
  clear HN
  rintro en w1 ⟨gc, rfl, hA, hC⟩
  obtain ⟨_, _, _, _, _, _, _, _, hb1⟩ := hA
  have hsc : Sc w (w1.alloc (.cells #[.slice none 0 0, .slice none 0 0, .int .i64 0, .int .i64 0] 28)) gc w1.heap.size 0 ⟨none, 0, 0, none, 0, 0, 0⟩ 0 (fun _ => none) (fun _ => none) (fun _ => []) (fun k => w.heap.size ≤ k ∧ k < w1.heap.size) [] [] := by
    have hb2 : Below w1.heap.size w1 (w1.alloc (.cells #[.slice none 0 0, .slice none 0 0, .int .i64 0, .int .i64 0] 28)) := (Below.refl _ _).alloc (Nat.le_refl _) _
    exact ⟨⟨hC.below hb2, Sy.new, ⟨World.ownsRow_nil _ _ _ _, rfl, (fun k hk => by cases hk), World.ownsRow_nil _ _ _ _, rfl, (fun k hk => by cases hk)⟩, by simp, by simp⟩, At.made rfl rfl, fun h => by omega, fun k hk => hk.1, hb1.size, hb1.trans (hb2.mono hb1.size), by simp, by simp⟩
  have HSC := Lib.hid hsc
  have HAw := Lib.hid (awake_calls (w1.alloc (.cells #[.slice none 0 0, .slice none 0 0, .int .i64 0, .int .i64 0] 28)))
  clear hC hsc
  go_wp2_with fail
  refine HAw.out.mono ?_
  clear HAw
  rintro en w2 ⟨rfl, hb2⟩
  have HS2 := Lib.hid (HSC.out.below hb2)
  have HL := Lib.hid HS2.out.looked
  clear hb2 hb1
  go_wp2_with fail
  refine HL.out.mono ?_
  clear HL
  rintro en w3 ⟨rfl, rfl⟩
  go_wp2_with fail
  obtain ⟨gB, hgB⟩ : ∃ gB, w1.heap.size = gB := ⟨_, rfl⟩
  rw [hgB] at HS2 ⊢
  clear HSC hgB
  go_loopg [5] 61 (fun kq v5 w' => ∃ j : Nat, v5 = .int .i64 (j : Int) ∧ Hid (j + kq = 61 ∧ j ≤ 60 ∧ j ≤ n ∧ ∃ G lk arcs cls row cb vs es, Sc w w' gc gB j G lk arcs cls row cb vs es))
  case atStart => exact ⟨0, rfl, Lib.hid ⟨by omega, by omega, by omega, _, _, _, _, _, _, _, _, HS2.out⟩⟩
  case round =>
    obtain ⟨j, rfl, hI⟩ := hrel
    obtain ⟨hjk, hj60, hjn, ⟨gA, gn, gcc, gE, gm, gce, ggw⟩, lk, arcs, cls, row, cb, vs, es, hS⟩ := hI.out
    clear hI HS2
    by_cases hj : j < n ∧ j < 60
    · obtain ⟨k1, rfl⟩ : ∃ k1, gk = k1 + 1 := ⟨gk - 1, by omega⟩
      obtain ⟨⟨k, e, u, v⟩, hx⟩ : ∃ x, s[j]? = some x := ⟨_, List.getElem?_eq_getElem (by rw [HS.out.1]; exact hj.1)⟩
      obtain ⟨ad, rfl, ck, ce, cu, cv⟩ := (HS.out.2.below hS.b) j k e u v hx
      have j0 : (0 : Int) ≤ (j : Int) := by omega
      have j1 : (j : Int) < (n : Int) := by omega
      have j2 : (j : Int) < 60 := by omega
      have HI := Lib.hid (And.intro hjk hS)
      have HJ := Lib.hid hj.2
      clear hjk hS hj60 hjn hj hx
      go_upto_region 8 with (fail)
      obtain ⟨gO, hgO⟩ : ∃ gO, wr.heap.size = gO := ⟨_, rfl⟩
      refine gen_world (fun W => Ro w W gc gB gO j ⟨gA, gn, gcc, gE, gm, gce, ggw⟩ lk arcs cls row cb vs es k e u v) (hgO ▸ HI.out.2.ro) ?_
      rw [hgO]
      intro wy hR
      have HR := Lib.hid hR
      clear hR hgO ck ce cu cv
      obtain ⟨wd, hwd⟩ : ∃ wd, wy.drew = wd := ⟨_, rfl⟩
      have hR : Ro w wd gc gB gO j ⟨gA, gn, gcc, gE, gm, gce, ggw⟩ lk arcs cls row cb vs es k e u v := hwd ▸ HR.out.below (Below.refl _ _).drew
      have HL := Lib.hid hR.s.looked
      have q0 := hR.s.at_.cell 0 rfl
      have HR := Lib.hid hR
      clear hR
      refine start_ (n := 7) (S := fun w' => w'.cell? ⟨gB, 0, none⟩ = some (.slice gA gn gcc)) (ds := []) (bA 7 0) (by kernel_rfl) rfl rfl ((by rw [hwd]; exact q0)) (fun hHeld => ?_)
      rw [hwd] at hHeld ⊢
      refine pure_ (i := 0) (N := some 44) (v := ?_) (a' := ?_) (bA 7 1) rfl rfl (by kernel_rfl) (fun _ _ _ h => h) (Or.inl ⟨by rfl, ?_⟩) ?_ ?_
      rotate_left; · intro w'; go_simp; with_reducible rfl
      rotate_left; · simp only [Act.put, pA, pB, pC, pD, pE]; rfl
      refine pure_ (i := 2) (N := some 46) (v := ?_) (a' := ?_) (bA 7 5) rfl rfl (by kernel_rfl) (fun _ _ _ h => h) (Or.inl ⟨by rfl, ?_⟩) ?_ ?_
      rotate_left; · intro w'; go_simp; with_reducible rfl
      rotate_left; · simp only [Act.put, pA, pB, pC, pD, pE]; rfl
      refine take_ (i := 3) (N := some 47) (v := ?_) (a' := ?_) (bA 7 13) rfl rfl (by kernel_rfl) (fun _ _ _ h => h) (Or.inl ⟨by rfl, ?_⟩) hHeld ?_ ?_
      rotate_left
      · intro w' s0
        go_simp; with_reducible rfl
      rotate_left; · simp only [Act.put, pA, pB, pC, pD, pE]; rfl
      refine pure_ (i := 4) (N := some 48) (v := ?_) (a' := ?_) (bA 7 29) rfl rfl (by kernel_rfl) (fun _ _ _ h => h) (Or.inl ⟨by rfl, ?_⟩) ?_ ?_
      rotate_left; · intro w'; go_simp; with_reducible rfl
      rotate_left; · simp only [Act.put, pA, pB, pC, pD, pE]; rfl
      refine one_ (i := 1) (N := some 45) (bA 7 31) rfl rfl (by kernel_rfl) (by decide) (fun K hK => ?_)
      refine goes_ Try.func7 (by kernel_rfl) rfl #[.pointer (some ⟨gc, 0, none⟩)] (by rfl) rfl rfl (by simp only [List.map_toArray, List.map_cons, List.map_nil]; rfl) ?_
      with_reducible refine (HL.out).mono ?_
      rintro el wl ⟨rfl, rfl⟩
      refine ⟨_, rfl, ?_⟩
      refine hK.out _ _ (q0) (fun hHeld => ?_)
      clear hK K
      refine norm_ (a' := ?_) ?_ ?_
      rotate_left
      · show Act.put _ (some 45) _ = _
        simp only [Act.put, pA, pB, pC, pD, pE]; rfl
      refine pure_ (i := 5) (N := some 7) (v := ?_) (a' := ?_) (bA 7 63) rfl rfl (by kernel_rfl) (fun _ _ _ h => h) (Or.inl ⟨by rfl, ?_⟩) ?_ ?_
      rotate_left; · intro w'; go_simp; with_reducible rfl
      rotate_left; · simp only [Act.put, pA, pB, pC, pD, pE]; rfl
      refine pure_ (i := 6) (N := some 8) (v := ?_) (a' := ?_) (bA 7 127) rfl rfl (by kernel_rfl) (fun _ _ _ h => h) (Or.inl ⟨by rfl, ?_⟩) ?_ ?_
      rotate_left; · intro w'; go_simp; with_reducible rfl
      rotate_left; · simp only [Act.put, pA, pB, pC, pD, pE]; rfl
      refine done_ (by kernel_rfl) ?_
      clear hHeld; clear HL q0
      have q0 := HR.out.s.at_.cell 0 rfl
      have q1 := HR.out.s.at_.cell 1 rfl
      have q2 := HR.out.s.at_.cell 2 rfl
      have q3 := HR.out.s.at_.cell 3 rfl
      have o1 := HR.out.o.cell 1 rfl
      have HA := Lib.hid HR.out.at_
      unfold Gp.v gV at HA
      go_wp2_with fail
      refine HA.out.mono ?_
      clear HA
      rintro ea w4 ⟨rfl, hb4⟩
      have HR := Lib.hid (HR.out.below hb4)
      clear hb4 q0 q1 q2 q3 o1
      go_upto_region 10 with (fail)
      clear hwd
      obtain ⟨we, hwd⟩ : ∃ wd, w4.drew = wd := ⟨_, rfl⟩
      have hR : Ro w we gc gB gO j ⟨gA, gn, gcc, gE, gm, gce, ggw⟩ lk arcs cls row cb vs es k e u v := hwd ▸ HR.out.below (Below.refl _ _).drew
      have o2 := hR.o.cell 2 rfl
      have o3 := hR.o.cell 3 rfl
      have HR := Lib.hid hR
      clear hR
      refine start_ (n := 6) (S := fun w' => w'.cell? ⟨gO, 2, none⟩ = some (.int .i64 u) ∧ w'.cell? ⟨gO, 3, none⟩ = some (.int .i64 v)) (ds := []) (bA 6 0) (by kernel_rfl) rfl rfl ⟨(by rw [hwd]; exact o2), (by rw [hwd]; exact o3)⟩ (fun hHeld => ?_)
      rw [hwd] at hHeld ⊢
      refine pure_ (i := 0) (N := some 53) (v := ?_) (a' := ?_) (bA 6 1) rfl rfl (by kernel_rfl) (fun _ _ _ h => h) (Or.inl ⟨by rfl, ?_⟩) ?_ ?_
      rotate_left; · intro w'; go_simp; with_reducible rfl
      rotate_left; · simp only [Act.put, pA, pB, pC, pD, pE]; rfl
      refine pure_ (i := 2) (N := some 55) (v := ?_) (a' := ?_) (bA 6 5) rfl rfl (by kernel_rfl) (fun _ _ _ h => h) (Or.inl ⟨by rfl, ?_⟩) ?_ ?_
      rotate_left; · intro w'; go_simp; with_reducible rfl
      rotate_left; · simp only [Act.put, pA, pB, pC, pD, pE]; rfl
      refine take_ (i := 1) (N := some 54) (v := ?_) (a' := ?_) (bA 6 7) rfl rfl (by kernel_rfl) (fun _ _ _ h => h) (Or.inl ⟨by rfl, ?_⟩) hHeld ?_ ?_
      rotate_left
      · rintro w' ⟨s0, s1⟩
        go_simp; with_reducible rfl
      rotate_left; · simp only [Act.put, pA, pB, pC, pD, pE]; rfl
      refine pure_ (i := 4) (N := some 10) (v := ?_) (a' := ?_) (bA 6 23) rfl rfl (by kernel_rfl) (fun _ _ _ h => h) (Or.inl ⟨by rfl, ?_⟩) ?_ ?_
      rotate_left; · intro w'; go_simp; with_reducible rfl
      rotate_left; · simp only [Act.put, pA, pB, pC, pD, pE]; rfl
      refine take_ (i := 3) (N := some 56) (v := ?_) (a' := ?_) (bA 6 31) rfl rfl (by kernel_rfl) (fun _ _ _ h => h) (Or.inl ⟨by rfl, ?_⟩) hHeld ?_ ?_
      rotate_left
      · rintro w' ⟨s0, s1⟩
        go_simp; with_reducible rfl
      rotate_left; · simp only [Act.put, pA, pB, pC, pD, pE]; rfl
      refine pure_ (i := 5) (N := some 11) (v := ?_) (a' := ?_) (bA 6 63) rfl rfl (by kernel_rfl) (fun _ _ _ h => h) (Or.inl ⟨by rfl, ?_⟩) ?_ ?_
      rotate_left; · intro w'; go_simp; with_reducible rfl
      rotate_left; · simp only [Act.put, pA, pB, pC, pD, pE]; rfl
      refine done_ (by kernel_rfl) ?_
      clear hHeld; clear o2 o3 hwd
      by_cases hf : k = 4 ∧ ∃ p ∈ es, p.1 = e
      · obtain ⟨rfl, ⟨e', u0, v0⟩, hp, he'⟩ := hf
        obtain rfl : e = e' := Eq.symm he'
        obtain ⟨i, hi⟩ := List.mem_iff_getElem?.1 hp
        have hil := (List.getElem?_eq_some_iff.1 hi).1
        have hat0 := atI_yes hi rfl fun t q ht hq e1 => by
          have := HR.out.s.p.s.un t i q _ hq hi e1
          omega
        have hem : es.length = gm := HR.out.s.p.g.ne
        obtain ⟨g5, hg5, _, cu, cv⟩ := RdG.of_own HR.out.s.p.g.re i e u0 v0 hi
        have hg5 : gE = some ⟨g5, 0, none⟩ := hg5
        subst hg5
        have HE := Lib.hid (And.intro hi (And.intro hat0 (And.intro cu cv)))
        have i0 : (0 : Int) ≤ (i : Int) := by omega
        have i1 : (i : Int) < (gm : Int) := by omega
        have i2 : (gm : Int) ≤ 1000 := by have := HR.out.s.p.le; omega
        rw [hat0]
        clear hp he' hi hil hat0 hem cu cv
        have o0 := HR.out.o.cell 0 rfl
        go_upto_region 12 with (fail)
        clear o0
        obtain ⟨wf, hwd⟩ : ∃ wd, we.drew = wd := ⟨_, rfl⟩
        have hR : Ro w wf gc gB gO j ⟨gA, gn, gcc, some ⟨g5, 0, none⟩, gm, gce, ggw⟩ lk arcs cls row cb vs es 4 e u v := hwd ▸ HR.out.below (Below.refl _ _).drew
        have c0 := hR.s.at_.cell 1 rfl
        have c1 := keep_at (hwd ▸ (Below.refl _ _).drew : Below we.heap.size we wf) HE.out.2.2.1
        have c2 := keep_at (hwd ▸ (Below.refl _ _).drew : Below we.heap.size we wf) HE.out.2.2.2
        have HR := Lib.hid hR
        clear hR
        refine start_ (n := 14) (S := fun w' => w'.cell? ⟨gB, 1, none⟩ = some (.slice (some ⟨g5, 0, none⟩) gm gce) ∧ w'.cell? ⟨g5, i * 4 + 1, none⟩ = some (.int .i64 u0) ∧ w'.cell? ⟨g5, i * 4 + 2, none⟩ = some (.int .i64 v0)) (ds := []) (bA 14 0) (by kernel_rfl) rfl rfl ⟨(by rw [hwd]; exact c0), (by rw [hwd]; exact c1), (by rw [hwd]; exact c2)⟩ (fun hHeld => ?_)
        rw [hwd] at hHeld ⊢
        refine with_tabW tb3_12.tab12 tb3_12.bits12 (fun HT_ HW_ => ?_)
        refine pure_ (i := 0) (N := some 64) (v := ?_) (a' := ?_) (bA 14 1) rfl rfl (any_of HT_.out (by kernel_rfl)) (fun _ _ _ h => h) (Or.inl ⟨by rfl, ?_⟩) ?_ ?_
        rotate_left; · intro w'; go_simp; with_reducible rfl
        rotate_left; · simp only [Act.put, pA, pB, pC, pD, pE]; rfl
        refine pure_ (i := 2) (N := some 66) (v := ?_) (a' := ?_) (bA 14 5) rfl rfl (any_of HT_.out (by kernel_rfl)) (fun _ _ _ h => h) (Or.inl ⟨by rfl, ?_⟩) ?_ ?_
        rotate_left; · intro w'; go_simp; with_reducible rfl
        rotate_left; · simp only [Act.put, pA, pB, pC, pD, pE]; rfl
        refine pure_ (i := 6) (N := some 70) (v := ?_) (a' := ?_) (bA 14 69) rfl rfl (any_of HT_.out (by kernel_rfl)) (fun _ _ _ h => h) (Or.inl ⟨by rfl, ?_⟩) ?_ ?_
        rotate_left; · intro w'; go_simp; with_reducible rfl
        rotate_left; · simp only [Act.put, pA, pB, pC, pD, pE]; rfl
        refine pure_ (i := 8) (N := some 72) (v := ?_) (a' := ?_) (bA 14 325) rfl rfl (any_of HT_.out (by kernel_rfl)) (fun _ _ _ h => h) (Or.inl ⟨by rfl, ?_⟩) ?_ ?_
        rotate_left; · intro w'; go_simp; with_reducible rfl
        rotate_left; · simp only [Act.put, pA, pB, pC, pD, pE]; rfl
        refine take_ (i := 1) (N := some 65) (v := ?_) (a' := ?_) (bA 14 327) rfl rfl (take_ofW HT_.out HW_.out (by kernel_rfl)) (fun _ _ _ h => h) (Or.inl ⟨by rfl, ?_⟩) hHeld ?_ ?_
        rotate_left
        · rintro w' ⟨s0, s1, s2⟩
          go_simp; with_reducible rfl
        rotate_left; · simp only [Act.put, pA, pB, pC, pD, pE]; rfl
        refine pure_ (i := 3) (N := some 67) (v := ?_) (a' := ?_) (bA 14 335) rfl rfl (any_of HT_.out (by kernel_rfl)) (fun _ _ _ h => h) (Or.inl ⟨by rfl, ?_⟩) ?_ ?_
        rotate_left; · intro w'; go_simp; with_reducible rfl
        rotate_left; · simp only [Act.put, pA, pB, pC, pD, pE]; rfl
        refine pure_ (i := 4) (N := some 68) (v := ?_) (a' := ?_) (bA 14 351) rfl rfl (any_of HT_.out (by kernel_rfl)) (fun _ _ _ h => h) (Or.inl ⟨by rfl, ?_⟩) ?_ ?_
        rotate_left; · intro w'; go_simp; with_reducible rfl
        rotate_left; · simp only [Act.put, pA, pB, pC, pD, pE]; rfl
        refine take_ (i := 5) (N := some 69) (v := ?_) (a' := ?_) (bA 14 383) rfl rfl (take_ofW HT_.out HW_.out (by kernel_rfl)) (fun _ _ _ h => h) (Or.inl ⟨by rfl, ?_⟩) hHeld ?_ ?_
        rotate_left
        · rintro w' ⟨s0, s1, s2⟩
          go_simp; with_reducible rfl
        rotate_left; · simp only [Act.put, pA, pB, pC, pD, pE]; rfl
        refine pure_ (i := 12) (N := some 10) (v := ?_) (a' := ?_) (bA 14 4479) rfl rfl (any_of HT_.out (by kernel_rfl)) (fun _ _ _ h => h) (Or.inl ⟨by rfl, ?_⟩) ?_ ?_
        rotate_left; · intro w'; go_simp; with_reducible rfl
        rotate_left; · simp only [Act.put, pA, pB, pC, pD, pE]; rfl
        refine take_ (i := 7) (N := some 71) (v := ?_) (a' := ?_) (bA 14 4607) rfl rfl (take_ofW HT_.out HW_.out (by kernel_rfl)) (fun _ _ _ h => h) (Or.inl ⟨by rfl, ?_⟩) hHeld ?_ ?_
        rotate_left
        · rintro w' ⟨s0, s1, s2⟩
          go_simp; with_reducible rfl
        rotate_left; · simp only [Act.put, pA, pB, pC, pD, pE]; rfl
        refine pure_ (i := 9) (N := some 73) (v := ?_) (a' := ?_) (bA 14 5119) rfl rfl (any_of HT_.out (by kernel_rfl)) (fun _ _ _ h => h) (Or.inl ⟨by rfl, ?_⟩) ?_ ?_
        rotate_left; · intro w'; go_simp; with_reducible rfl
        rotate_left; · simp only [Act.put, pA, pB, pC, pD, pE]; rfl
        refine pure_ (i := 10) (N := some 74) (v := ?_) (a' := ?_) (bA 14 6143) rfl rfl (any_of HT_.out (by kernel_rfl)) (fun _ _ _ h => h) (Or.inl ⟨by rfl, ?_⟩) ?_ ?_
        rotate_left; · intro w'; go_simp; with_reducible rfl
        rotate_left; · simp only [Act.put, pA, pB, pC, pD, pE]; rfl
        refine take_ (i := 11) (N := some 75) (v := ?_) (a' := ?_) (bA 14 8191) rfl rfl (take_ofW HT_.out HW_.out (by kernel_rfl)) (fun _ _ _ h => h) (Or.inl ⟨by rfl, ?_⟩) hHeld ?_ ?_
        rotate_left
        · rintro w' ⟨s0, s1, s2⟩
          go_simp; with_reducible rfl
        rotate_left; · simp only [Act.put, pA, pB, pC, pD, pE]; rfl
        refine pure_ (i := 13) (N := some 11) (v := ?_) (a' := ?_) (bA 14 16383) rfl rfl (any_of HT_.out (by kernel_rfl)) (fun _ _ _ h => h) (Or.inl ⟨by rfl, ?_⟩) ?_ ?_
        rotate_left; · intro w'; go_simp; with_reducible rfl
        rotate_left; · simp only [Act.put, pA, pB, pC, pD, pE]; rfl
        refine done_ (done_of HT_.out (by kernel_rfl)) ?_
        clear hHeld HT_ HW_; clear c0 c1 c2 hwd
        have hml := HR.out.ml u0
        obtain ⟨M, hM⟩ : ∃ M, (mems cls row u0).length = M := ⟨_, rfl⟩
        obtain ⟨sb, hsb⟩ : ∃ sb, sameV cls u0 v0 = sb := ⟨_, rfl⟩
        have hm := HR.out.mem u0
        rw [hM] at hm hml
        have HM := Lib.hid hm
        have HF := Lib.hid (And.intro hM hsb)
        clear hm hM
        go_wp2_with fail
        refine HM.out.mono ?_
        clear HM
        rintro em w5 ⟨um, rfl, hom, hb5⟩
        obtain ⟨Am, cm, rfl⟩ := Lw.own_slice hom
        have HR := Lib.hid (HR.out.below hb5)
        have hs := HR.out.same u0 v0
        rw [hsb] at hs
        have HSm := Lib.hid hs
        clear hom hb5 hs
        go_wp2_with fail
        refine HSm.out.mono ?_
        clear HSm
        rintro ex w6 ⟨rfl, hb6⟩
        have HR := Lib.hid (HR.out.below hb6)
        clear hb6
        have q0 := HR.out.s.at_.cell 0 rfl
        have q1 := HR.out.s.at_.cell 1 rfl
        have q2 := HR.out.s.at_.cell 2 rfl
        have q3 := HR.out.s.at_.cell 3 rfl
        have o0 := HR.out.o.cell 0 rfl
        have o1 := HR.out.o.cell 1 rfl
        have o2 := HR.out.o.cell 2 rfl
        have o3 := HR.out.o.cell 3 rfl
        have HP := Lib.hid (HR.out.s.p.play 4 e u v)
        unfold Gp.v gV at HP
        go_wp2_with fail
        refine HP.out.mono ?_
        clear HP q0 q1 q2 q3 o0 o1 o2 o3
        rintro ep w7 ⟨⟨xA, xn, xc, xE, xm, xce, xgw⟩, rfl, hPP⟩
        have hat : At w7 gB [(.slice gA gn gcc), (.slice (some ⟨g5, 0, none⟩) gm gce), (.int .i64 0), (.int .i64 ggw)] 28 := by
          obtain ⟨_, _, _, _, _, _, _, _, _, _, hK, _⟩ := hPP
          exact HR.out.s.at_.kept hK HR.out.s.nb
        have f0 := hat.free 0
        have f1 := hat.free 1
        have f2 := hat.free 2
        have f3 := hat.free 3
        have r0 := hat.cell 0 rfl
        have r1 := hat.cell 1 rfl
        have r2 := hat.cell 2 rfl
        have r3 := hat.cell 3 rfl
        obtain ⟨lk', arcs', cls', row', cb', vs', es', hR2, hB⟩ := HR.out.next hPP HJ.out (((((Kpt.refl (fun x => x = gB) w7).set (fun _ => rfl) (q := ⟨gB, 0, none⟩) (.slice xA xn xc)).set (fun _ => rfl) (q := ⟨gB, 1, none⟩) (.slice xE xm xce)).set (fun _ => rfl) (q := ⟨gB, 2, none⟩) (.int .i64 0)).set (fun _ => rfl) (q := ⟨gB, 3, none⟩) (.int .i64 xgw)) ((((hat.put rfl).put rfl).put rfl).put rfl)
        have hgn := HR.out.s.p.g.nv
        have hgm := HR.out.s.p.g.ne
        have hxm := hR2.s.p.g.ne
        have hvl := HR.out.s.p.lv
        have HR2 := Lib.hid hR2
        have HB := Lib.hid (And.intro hB (And.intro hgn (And.intro hgm (And.intro hxm hvl))))
        clear hat hPP hR2 hB hgn hgm hxm hvl HR
        go_upto_region 18 with (fail)
        clear f0 f1 f2 f3 r0 r1 r2 r3
        refine gen_world (fun W => Ro w W gc gB gO (j + 1) ⟨xA, xn, xc, xE, xm, xce, xgw⟩ lk' arcs' cls' row' cb' vs' es' 4 e u v) HR2.out ?_
        clear HR2
        intro wz hR
        have q1 := hR.s.at_.cell 1 rfl
        have o0 := hR.o.cell 0 rfl
        have HL := Lib.hid hR.s.looked
        have HR := Lib.hid hR
        clear hR
        go_wp2_with fail
        refine HL.out.mono ?_
        clear HL
        rintro el wl ⟨rfl, rfl⟩
        obtain ⟨hB, hgn, hgm, hxm, hvl⟩ := HB.out
        have hgn : vs.length = gn := hgn
        have hgm : es.length = gm := hgm
        have hxm : es'.length = xm := hxm
        have HX := Lib.hid (show j + 1 + k1 = 61 ∧ j + 1 ≤ 60 ∧ j + 1 ≤ n ∧ ∃ G lk arcs cls row cb vs es, Sc w wl gc gB (j + 1) G lk arcs cls row cb vs es from ⟨by have := HI.out.1; omega, by have := HJ.out; omega, by omega, _, _, _, _, _, _, _, _, HR.out.s⟩)
        have j3 : (j : Int) + 1 ≤ 60 := by have := HJ.out; omega
        rcases hB with ⟨he, rfl⟩ | ⟨h34, _⟩ | ⟨_, he, i', u', v', hi', hat', hs, hl0, hl1⟩
        · obtain rfl : xm = gm := by omega
          clear hgn hgm hxm hvl he HB HR HI HF HJ hml
          go_wp2
          go_roundg k1
          case measure => omega
          case rel => exact ⟨j + 1, by go_num, HX⟩
        · exact absurd h34 (by decide)
        · obtain rfl : i' = i := by
            have := hat'.symm.trans HE.out.2.1
            omega
          have hq := hi'.symm.trans HE.out.1
          cases hq
          have hne : ¬ xm = gm := by omega
          rw [HF.out.1] at hl1
          cases sb with
          | false =>
            obtain rfl := hs (.inl HF.out.2)
            clear hgn hgm hxm hvl he HB HR HI HF HJ hml hs hl0 hl1 hi' hat' HE
            go_wp2
            go_roundg k1
            case measure => omega
            case rel => exact ⟨j + 1, by go_num, HX⟩
          | true =>
            by_cases huv : u0 = v0
            · subst huv
              obtain rfl := hs (.inr rfl)
              clear hgn hgm hxm hvl he HB HR HI HF HJ hml hs hl0 hl1 hi' hat' HE
              go_wp2
              go_roundg k1
              case measure => omega
              case rel => exact ⟨j + 1, by go_num, HX⟩
            · have hmul : wrap64 (2 * (M : Int)) = 2 * (M : Int) := by unfold wrap64; omega
              clear hgn hgm hxm hvl he HB HR HI HF HJ hml hs hi' hat' HE
              go_wp2
              go_roundg k1
              case measure => omega
              case rel => exact ⟨j + 1, by go_num, HX⟩
      · have hkn : ¬ k = 4 ∨ (k = 4 ∧ ∀ p ∈ es, p.1 ≠ e) := by
          by_cases h4 : k = 4
          · exact .inr ⟨h4, fun p hp e1 => hf ⟨h4, p, hp, e1⟩⟩
          · exact .inl h4
        clear hf
        rcases hkn with hkn | ⟨rfl, hno⟩
        · have o0 := HR.out.o.cell 0 rfl
          have hml := HR.out.ml u
          obtain ⟨M, hM⟩ : ∃ M, (mems cls row u).length = M := ⟨_, rfl⟩
          obtain ⟨sb, hsb⟩ : ∃ sb, sameV cls u v = sb := ⟨_, rfl⟩
          have hm := HR.out.mem u
          rw [hM] at hm hml
          have HM := Lib.hid hm
          have HF := Lib.hid (And.intro hM hsb)
          clear hm hM
          go_wp2_with fail
          refine HM.out.mono ?_
          clear HM
          rintro em w5 ⟨um, rfl, hom, hb5⟩
          obtain ⟨Am, cm, rfl⟩ := Lw.own_slice hom
          have HR := Lib.hid (HR.out.below hb5)
          have hs := HR.out.same u v
          rw [hsb] at hs
          have HSm := Lib.hid hs
          clear hom hb5 hs o0
          go_wp2_with fail
          refine HSm.out.mono ?_
          clear HSm
          rintro ex w6 ⟨rfl, hb6⟩
          have HR := Lib.hid (HR.out.below hb6)
          clear hb6
          have q0 := HR.out.s.at_.cell 0 rfl
          have q1 := HR.out.s.at_.cell 1 rfl
          have q2 := HR.out.s.at_.cell 2 rfl
          have q3 := HR.out.s.at_.cell 3 rfl
          have o0 := HR.out.o.cell 0 rfl
          have o1 := HR.out.o.cell 1 rfl
          have o2 := HR.out.o.cell 2 rfl
          have o3 := HR.out.o.cell 3 rfl
          have HP := Lib.hid (HR.out.s.p.play k e u v)
          unfold Gp.v gV at HP
          go_wp2_with fail
          refine HP.out.mono ?_
          clear HP q0 q1 q2 q3 o0 o1 o2 o3
          rintro ep w7 ⟨⟨xA, xn, xc, xE, xm, xce, xgw⟩, rfl, hPP⟩
          have hat : At w7 gB [(.slice gA gn gcc), (.slice gE gm gce), (.int .i64 0), (.int .i64 ggw)] 28 := by
            obtain ⟨_, _, _, _, _, _, _, _, _, _, hK, _⟩ := hPP
            exact HR.out.s.at_.kept hK HR.out.s.nb
          have f0 := hat.free 0
          have f1 := hat.free 1
          have f2 := hat.free 2
          have f3 := hat.free 3
          have r0 := hat.cell 0 rfl
          have r1 := hat.cell 1 rfl
          have r2 := hat.cell 2 rfl
          have r3 := hat.cell 3 rfl
          obtain ⟨lk', arcs', cls', row', cb', vs', es', hR2, hB⟩ := HR.out.next hPP HJ.out (((((Kpt.refl (fun x => x = gB) w7).set (fun _ => rfl) (q := ⟨gB, 0, none⟩) (.slice xA xn xc)).set (fun _ => rfl) (q := ⟨gB, 1, none⟩) (.slice xE xm xce)).set (fun _ => rfl) (q := ⟨gB, 2, none⟩) (.int .i64 0)).set (fun _ => rfl) (q := ⟨gB, 3, none⟩) (.int .i64 xgw)) ((((hat.put rfl).put rfl).put rfl).put rfl)
          have hgn := HR.out.s.p.g.nv
          have hgm := HR.out.s.p.g.ne
          have hxm := hR2.s.p.g.ne
          have hvl := HR.out.s.p.lv
          have HR2 := Lib.hid hR2
          have HB := Lib.hid (And.intro hB (And.intro hgn (And.intro hgm (And.intro hxm hvl))))
          clear hat hPP hR2 hB hgn hgm hxm hvl HR
          go_upto_region 18 with (fail)
          clear f0 f1 f2 f3 r0 r1 r2 r3
          refine gen_world (fun W => Ro w W gc gB gO (j + 1) ⟨xA, xn, xc, xE, xm, xce, xgw⟩ lk' arcs' cls' row' cb' vs' es' k e u v) HR2.out ?_
          clear HR2
          intro wz hR
          have q1 := hR.s.at_.cell 1 rfl
          have o0 := hR.o.cell 0 rfl
          have HL := Lib.hid hR.s.looked
          have HR := Lib.hid hR
          clear hR
          go_wp2_with fail
          refine HL.out.mono ?_
          clear HL
          rintro el wl ⟨rfl, rfl⟩
          obtain ⟨hB, hgn, hgm, hxm, hvl⟩ := HB.out
          have hgn : vs.length = gn := hgn
          have hgm : es.length = gm := hgm
          have hxm : es'.length = xm := hxm
          have HX := Lib.hid (show j + 1 + k1 = 61 ∧ j + 1 ≤ 60 ∧ j + 1 ≤ n ∧ ∃ G lk arcs cls row cb vs es, Sc w wl gc gB (j + 1) G lk arcs cls row cb vs es from ⟨by have := HI.out.1; omega, by have := HJ.out; omega, by omega, _, _, _, _, _, _, _, _, HR.out.s⟩)
          have j3 : (j : Int) + 1 ≤ 60 := by have := HJ.out; omega
          rcases hB with ⟨he, rfl⟩ | ⟨rfl, he, hs, hl0, hl1⟩ | ⟨rfl, _⟩
          · obtain rfl : xm = gm := by omega
            clear hgn hgm hxm hvl he HB HR HI HF HJ hml
            go_wp2
            go_roundg k1
            case measure => omega
            case rel => exact ⟨j + 1, by go_num, HX⟩
          · have hne : ¬ xm = gm := by omega
            cases sb with
            | true =>
              obtain rfl := hs HF.out.2
              clear hgn hgm hxm hvl he HB HR HI HF HJ hml hs hl0 hl1 hkn
              go_wp2
              go_roundg k1
              case measure => omega
              case rel => exact ⟨j + 1, by go_num, HX⟩
            | false =>
              have hmul : wrap64 (2 * (gn : Int)) = 2 * (gn : Int) := by unfold wrap64; omega
              rw [hgn] at hl1
              clear hgn hgm hxm hvl he HB HR HI HF HJ hml hs hkn
              go_wp2
              go_roundg k1
              case measure => omega
              case rel => exact ⟨j + 1, by go_num, HX⟩
          · exact absurd rfl hkn
        · have hat0 := atI_no hno
          have HNO := Lib.hid hno
          rw [hat0]
          clear hno hat0
          have o0 := HR.out.o.cell 0 rfl
          have hml := HR.out.ml u
          obtain ⟨M, hM⟩ : ∃ M, (mems cls row u).length = M := ⟨_, rfl⟩
          obtain ⟨sb, hsb⟩ : ∃ sb, sameV cls u v = sb := ⟨_, rfl⟩
          have hm := HR.out.mem u
          rw [hM] at hm hml
          have HM := Lib.hid hm
          have HF := Lib.hid (And.intro hM hsb)
          clear hm hM
          go_wp2_with fail
          refine HM.out.mono ?_
          clear HM
          rintro em w5 ⟨um, rfl, hom, hb5⟩
          obtain ⟨Am, cm, rfl⟩ := Lw.own_slice hom
          have HR := Lib.hid (HR.out.below hb5)
          have hs := HR.out.same u v
          rw [hsb] at hs
          have HSm := Lib.hid hs
          clear hom hb5 hs o0
          go_wp2_with fail
          refine HSm.out.mono ?_
          clear HSm
          rintro ex w6 ⟨rfl, hb6⟩
          have HR := Lib.hid (HR.out.below hb6)
          clear hb6
          have q0 := HR.out.s.at_.cell 0 rfl
          have q1 := HR.out.s.at_.cell 1 rfl
          have q2 := HR.out.s.at_.cell 2 rfl
          have q3 := HR.out.s.at_.cell 3 rfl
          have o0 := HR.out.o.cell 0 rfl
          have o1 := HR.out.o.cell 1 rfl
          have o2 := HR.out.o.cell 2 rfl
          have o3 := HR.out.o.cell 3 rfl
          have HP := Lib.hid (HR.out.s.p.play 4 e u v)
          unfold Gp.v gV at HP
          go_wp2_with fail
          refine HP.out.mono ?_
          clear HP q0 q1 q2 q3 o0 o1 o2 o3
          rintro ep w7 ⟨⟨xA, xn, xc, xE, xm, xce, xgw⟩, rfl, hPP⟩
          have hat : At w7 gB [(.slice gA gn gcc), (.slice gE gm gce), (.int .i64 0), (.int .i64 ggw)] 28 := by
            obtain ⟨_, _, _, _, _, _, _, _, _, _, hK, _⟩ := hPP
            exact HR.out.s.at_.kept hK HR.out.s.nb
          have f0 := hat.free 0
          have f1 := hat.free 1
          have f2 := hat.free 2
          have f3 := hat.free 3
          have r0 := hat.cell 0 rfl
          have r1 := hat.cell 1 rfl
          have r2 := hat.cell 2 rfl
          have r3 := hat.cell 3 rfl
          obtain ⟨lk', arcs', cls', row', cb', vs', es', hR2, hB⟩ := HR.out.next hPP HJ.out (((((Kpt.refl (fun x => x = gB) w7).set (fun _ => rfl) (q := ⟨gB, 0, none⟩) (.slice xA xn xc)).set (fun _ => rfl) (q := ⟨gB, 1, none⟩) (.slice xE xm xce)).set (fun _ => rfl) (q := ⟨gB, 2, none⟩) (.int .i64 0)).set (fun _ => rfl) (q := ⟨gB, 3, none⟩) (.int .i64 xgw)) ((((hat.put rfl).put rfl).put rfl).put rfl)
          have hgn := HR.out.s.p.g.nv
          have hgm := HR.out.s.p.g.ne
          have hxm := hR2.s.p.g.ne
          have hvl := HR.out.s.p.lv
          have HR2 := Lib.hid hR2
          have HB := Lib.hid (And.intro hB (And.intro hgn (And.intro hgm (And.intro hxm hvl))))
          clear hat hPP hR2 hB hgn hgm hxm hvl HR
          go_upto_region 18 with (fail)
          clear f0 f1 f2 f3 r0 r1 r2 r3
          refine gen_world (fun W => Ro w W gc gB gO (j + 1) ⟨xA, xn, xc, xE, xm, xce, xgw⟩ lk' arcs' cls' row' cb' vs' es' 4 e u v) HR2.out ?_
          clear HR2
          intro wz hR
          have q1 := hR.s.at_.cell 1 rfl
          have o0 := hR.o.cell 0 rfl
          have HL := Lib.hid hR.s.looked
          have HR := Lib.hid hR
          clear hR
          go_wp2_with fail
          refine HL.out.mono ?_
          clear HL
          rintro el wl ⟨rfl, rfl⟩
          obtain ⟨hB, hgn, hgm, hxm, hvl⟩ := HB.out
          have hgn : vs.length = gn := hgn
          have hgm : es.length = gm := hgm
          have hxm : es'.length = xm := hxm
          have HX := Lib.hid (show j + 1 + k1 = 61 ∧ j + 1 ≤ 60 ∧ j + 1 ≤ n ∧ ∃ G lk arcs cls row cb vs es, Sc w wl gc gB (j + 1) G lk arcs cls row cb vs es from ⟨by have := HI.out.1; omega, by have := HJ.out; omega, by omega, _, _, _, _, _, _, _, _, HR.out.s⟩)
          have j3 : (j : Int) + 1 ≤ 60 := by have := HJ.out; omega
          rcases hB with ⟨he, rfl⟩ | ⟨h34, _⟩ | ⟨_, _, i, u0, v0, hi, _⟩
          · obtain rfl : xm = gm := by omega
            clear hgn hgm hxm hvl he HB HR HI HF HJ hml
            go_wp2
            go_roundg k1
            case measure => omega
            case rel => exact ⟨j + 1, by go_num, HX⟩
          · exact absurd h34 (by decide)
          · exact absurd rfl (HNO.out _ (List.mem_of_getElem? hi))
    · have HZ := Lib.hid hS.b
      have HJ := Lib.hid (show j = n ∨ (j < n ∧ j = 60) from by omega)
      clear hS hjk hj60 hjn hj
      rcases HJ.out with rfl | ⟨hjn, rfl⟩
      · clear HJ
        go_wp2
        go_ret
        exact ⟨rfl, HZ.out⟩
      · clear HJ
        have jn : (60 : Int) < (n : Int) := by omega
        go_wp2
        go_ret
        exact ⟨rfl, HZ.out⟩
end Go.Proofs.Ythomnpgpbhpojaa.Cd

/- A script of calls as an argument. -/
namespace Go.Proofs.Ythomnpgpbhpojaa.Cd
open Go Go.RowKit Go.ChangeShapes Go.WideShapes Go.ChangeAt Go.Deep Go.Proofs.Ythomnpgpbhpojaa.Mem
set_option linter.unusedSimpArgs false
set_option linter.unusedVariables false

theorem own : ownKnob Try.prog.godebug = none := by kernel_rfl
theorem laidOut : laidOutB Try.prog = true := by kernel_rfl
theorem cells_int : Try.prog.cellsOf 3 = 1 := by kernel_rfl
theorem cells_op : Try.prog.cellsOf 32 = 4 := by kernel_rfl
theorem op_fields : ∃ f0 f1 f2 f3 : Field, Try.prog.underlying 32 = some (.struct #[f0, f1, f2, f3]) ∧ (f0.offset = 0 ∧ f1.offset = 1 ∧ f2.offset = 2 ∧ f3.offset = 3) ∧ f0.type = 3 ∧ f1.type = 3 ∧ f2.type = 3 ∧ f3.type = 3 :=
  ⟨_, _, _, _, Try.underlying32, ⟨rfl, rfl, rfl, rfl⟩, rfl, rfl, rfl, rfl⟩

section
variable {H : Type} {enc : TypeId × Value → H} {W : World} {base : Nat} {v : Value} {d : DataW H} {p : List MemPlace}
set_option maxRecDepth 100000 in
theorem ops_in (hv : Value.okWide Try.prog W .any base 22 v) (h : DataW.Trod enc Try.prog W 0 (fun _ => true) true 22 v d p) : ∃ (l : List (Int × Int × Int × Int)) (A : Option Addr) (c : Nat), v = .slice A l.length c ∧ RdO W A l := by
  obtain ⟨a0, len, cap, rfl⟩ := okWide_slice Try.underlying22 hv
  obtain ⟨fuel, hf⟩ := h
  obtain ⟨f0, f1, f2, f3, hu, ⟨o0, o1, o2, o3⟩, t0, t1, t2, t3⟩ := op_fields
  rcases open_slice Try.underlying22 hf with ⟨hcs, hx⟩ | ⟨a, len', cap', m, n, D, Pl, hcs, _, hl, hm, hmm, hx, hcell⟩
  · simp [Value.cells] at hcs
    obtain ⟨rfl, rfl, rfl⟩ := hcs
    exact ⟨[], none, 0, rfl, fun j k e u v hx => by simp at hx⟩
  · simp [Value.cells] at hcs
    obtain ⟨rfl, rfl, rfl⟩ := hcs
    simp only [if_true] at hmm
    have num : ∀ i, i < m → ∃ q : Int × Int × Int × Int, W.cell? (a.add (i * 4)) = some (.int .i64 q.1) ∧ W.cell? (a.add (i * 4 + 1)) = some (.int .i64 q.2.1) ∧ W.cell? (a.add (i * 4 + 2)) = some (.int .i64 q.2.2.1) ∧ W.cell? (a.add (i * 4 + 3)) = some (.int .i64 q.2.2.2) := by
      intro i hi
      obtain ⟨cs', h1, h2⟩ := hcell i hi
      rw [cells_op] at h1
      obtain ⟨_, hlen, hc⟩ := World.cells?_some h1
      obtain ⟨xs, k, hk, hxy, _, hxl, hf⟩ := DataW.trod_struct hu h2
      match xs, hxl, cs', hlen with
      | [y0, y1, y2, y3], _, [v0, v1, v2, v3], _ =>
        have g0 := hf 0 f0 rfl
        have g1 := hf 1 f1 rfl
        have g2 := hf 2 f2 rfl
        have g3 := hf 3 f3 rfl
        simp [o0, o1, o2, o3, t0, t1, t2, t3, cells_int] at g0 g1 g2 g3
        have e0 := hc 0 (by omega)
        have e1 := hc 1 (by omega)
        have e2 := hc 2 (by omega)
        have e3 := hc 3 (by omega)
        rw [Go.Deep.add_add] at e0 e1 e2 e3
        obtain ⟨x0, hx0, _⟩ := DataW.trod_int Try.underlying3 g0
        obtain ⟨x1, hx1, _⟩ := DataW.trod_int Try.underlying3 g1
        obtain ⟨x2, hx2, _⟩ := DataW.trod_int Try.underlying3 g2
        obtain ⟨x3, hx3, _⟩ := DataW.trod_int Try.underlying3 g3
        cases hx0
        cases hx1
        cases hx2
        cases hx3
        exact ⟨(x0, x1, x2, x3), by simpa using e0, by simpa using e1, by simpa using e2, by simpa using e3⟩
    obtain ⟨q, hq⟩ := choose_lt num
    refine ⟨(List.range len).map q, some a, cap, by simp, fun j k e u v hx => ?_⟩
    rw [List.getElem?_map] at hx
    have hj : j < len := by
      rcases Nat.lt_or_ge j len with h | h
      · exact h
      · rw [List.getElem?_eq_none (by simpa using h)] at hx
        cases hx
    rw [List.getElem?_range hj] at hx
    have hqe : q j = (k, e, u, v) := by simpa using hx
    obtain ⟨h0, h1, h2, h3⟩ := hq j (by omega)
    rw [hqe] at h0 h1 h2 h3
    exact ⟨a, rfl, h0, add_add (ad := a) (j * 4) 1 (by omega) ▸ h1, add_add (ad := a) (j * 4) 2 (by omega) ▸ h2, add_add (ad := a) (j * 4) 3 (by omega) ▸ h3⟩
end
end Go.Proofs.Ythomnpgpbhpojaa.Cd
