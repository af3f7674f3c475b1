/- Play: one call on the index and on the reference's graph. -/
import Derived.Test.YthomnpgpbhpojaaPo5
import Derived.Test.YthomnpgpbhpojaaPo33
namespace Go.Proofs.Ythomnpgpbhpojaa.Cd
open Go Go.RowKit Go.MapKept Go.Proofs.Ythomnpgpbhpojaa.Mem Go.Proofs.Ythomnpgpbhpojaa.Sl Go.Proofs.Ythomnpgpbhpojaa.Scc Go.Proofs.Ythomnpgpbhpojaa.Tj Go.Proofs.Ythomnpgpbhpojaa.Lw Go.Proofs.Ythomnpgpbhpojaa.Pt Go.Proofs.YthomnpgpbhpojaaW.PrintWords Go.Proofs.YthomnpgpbhpojaaW.PrintLast
attribute [local go_sem ↓] Go.wp_at_zero Go.wp_at_succ
set_option linter.unusedSimpArgs false
set_option linter.unusedVariables false

def PlayPost (w : World) (gc : Nat) (lk : Int) (cls : Int → Option Nat) (row : Nat → List Int) (cb : Nat → Prop) (vs : List Int) (es : List (Int × Int × Int)) (k e u v : Int) (w' : World) (G' : Gp) : Prop :=
  ∃ vs' es' lk' arcs' cls' row' cb', CdE w' gc lk' arcs' cls' row' cb' ∧ Sy arcs' cls' vs' es' ∧ GrO w' cb' G' vs' es' ∧ Kpt cb w w' ∧ (∀ k, cb' k → ext cb w w' k) ∧ vs'.length ≤ vs.length + 1 ∧ es'.length ≤ es.length + 1 ∧ Bnd k e u v vs es es' cls row lk lk'
section
variable {w w' W W' wd w2 w4 w5 : World} {gc : Nat} {lk : Int} {arcs : Int → Option (Int × Int)} {cls : Int → Option Nat} {row : Nat → List Int} {cb q q' p : Nat → Prop} {vs vs' : List Int} {es es' : List (Int × Int × Int)} {G G' : Gp} {k e u v : Int}
theorem play_end (h : Pre w gc lk arcs cls row cb G vs es) (hb2 : Below w.heap.size w w2) (hs2 : w.heap.size + 1 + 1 + 1 ≤ w2.heap.size) (hg : GrO w2 (fun x => cb x ∨ (w.heap.size ≤ x ∧ x < w.heap.size + 1 + 1 + 1)) G' vs' es')
    (hk3 : Kpt (fun x => w.heap.size ≤ x ∧ x < w.heap.size + 1 + 1 + 1) w2 wd) (hk4 : Kpt cb wd w4)
    (hP : ∃ lk' arcs' cls' row' cb', CdE w4 gc lk' arcs' cls' row' cb' ∧ (∀ x, cb' x → ext cb wd w4 x) ∧ Sy arcs' cls' vs' es' ∧ Bnd k e u v vs es es' cls row lk lk')
    (hk5 : Kpt (fun x => x = w.heap.size + 1 + 1) w4 w5) (hl1 : vs'.length ≤ vs.length + 1) (hl2 : es'.length ≤ es.length + 1) : PlayPost w gc lk cls row cb vs es k e u v w5 G' := by
  obtain ⟨lk', arcs', cls', row', cb', hC, hcb, hS, hB⟩ := hP
  have hlt := h.c.lt
  have s3 := hk3.size
  have s4 := hk4.size
  have s5 := hk5.size
  have hcb' : ∀ x, cb' x → cb x ∨ (wd.heap.size ≤ x ∧ x < w4.heap.size) := hcb
  have hne : ∀ x, cb' x → ¬ x = w.heap.size + 1 + 1 := fun x hx e => by
    rcases hcb' x hx with h1 | h1
    · have := hlt x h1; omega
    · omega
  have hg2 : GrO w2 (fun x => cb x ∨ (w.heap.size ≤ x ∧ x < w.heap.size + 1 + 1 + 1) ∨ w2.heap.size ≤ x) G' vs' es' := hg.mono fun x hx hq => by
    rcases hq with hq | hq | hq
    · exact .inl hq
    · exact .inr hq
    · omega
  have hg5 := ((hg2.kept hk3 fun x hx => .inr (.inl hx)).kept hk4 fun x hx => .inl hx).kept hk5 fun x hx => .inr (.inl ⟨by omega, by omega⟩)
  refine ⟨vs', es', lk', arcs', cls', row', cb', hC.kept hk5 hne, hS, hg5.mono fun x hx hc => ?_, ?_, fun x hx => ?_, hl1, hl2, hB⟩
  · rcases hcb' x hc with h1 | h1
    · exact .inl h1
    · exact .inr (.inr (by omega))
  · exact (((Kpt.of_below hb2).trans' (p' := fun x => w.heap.size ≤ x ∧ x < w.heap.size + 1 + 1 + 1) hk3 fun x hx hq => by omega).trans hk4).trans' hk5 fun x hx hq => by omega
  · rcases hcb' x hx with h1 | h1
    · exact .inl h1
    · exact .inr ⟨by have := hb2.size; omega, by omega⟩
theorem Pre.below (h : Pre w gc lk arcs cls row cb G vs es) (hb : Below w.heap.size w w') : Pre w' gc lk arcs cls row cb G vs es := ⟨h.c.below hb, h.s, h.g.below hb, h.lv, h.le⟩
theorem play_stay (h : Pre w gc lk arcs cls row cb G vs es) (hb : Below w.heap.size w w') : PlayPost w gc lk cls row cb vs es k e u v w' G :=
  ⟨vs, es, lk, arcs, cls, row, cb, h.c.below hb, h.s, h.g.below hb, Kpt.of_below hb, fun x hx => .inl hx, by omega, by omega, .inl ⟨rfl, rfl⟩⟩
end
def tb11_5.T5 : Bool × List (List Nat × List Nat) := (true, [([], []), ([], []), ([], []), ([2], [2]), ([1, 3], [1, 3]), ([], []), ([4, 5], [4, 5]), ([0, 4, 0], [0]), ([6, 7, 0, 1, 2, 3, 4, 5, 6, 7], [6])])
def tb11_5.B5 : List Nat := [0, 0, 0, 4, 14, 0, 62, 31, 255]
theorem tb11_5.tab5 : rtab .any (opsOf Try.f11 5) = tb11_5.T5 := by kernel_rfl
theorem tb11_5.bits5 : waitsOk tb11_5.T5.2 tb11_5.B5 = true := by kernel_rfl
def tb11_8.T8 : Bool × List (List Nat × List Nat) := (true, [([], []), ([], []), ([], []), ([2], [2]), ([1, 3], [1, 3]), ([], []), ([4, 5], [4, 5]), ([0, 4, 0], [0]), ([6, 7, 0, 1, 2, 3, 4, 5, 6, 7], [6])])
def tb11_8.B8 : List Nat := [0, 0, 0, 4, 14, 0, 62, 31, 255]
theorem tb11_8.tab8 : rtab .any (opsOf Try.f11 8) = tb11_8.T8 := by kernel_rfl
theorem tb11_8.bits8 : waitsOk tb11_8.T8.2 tb11_8.B8 = true := by kernel_rfl
def tb11_11.T11 : Bool × List (List Nat × List Nat) := (true, [([], []), ([], []), ([], []), ([2], [2]), ([], []), ([4], [4]), ([], []), ([6], [6]), ([1, 3, 5, 7], [1, 3, 5, 7]), ([], []), ([8, 9], [8, 9]), ([0, 8, 0], [0]), ([10, 11, 0, 1, 2, 3, 4, 5, 6, 7, 8, 9, 10, 11], [10])])
def tb11_11.B11 : List Nat := [0, 0, 0, 4, 0, 16, 0, 64, 254, 0, 1022, 511, 4095]
theorem tb11_11.tab11 : rtab .any (opsOf Try.f11 11) = tb11_11.T11 := by kernel_rfl
theorem tb11_11.bits11 : waitsOk tb11_11.T11.2 tb11_11.B11 = true := by kernel_rfl
def tb11_14.T14 : Bool × List (List Nat × List Nat) := (true, [([], []), ([], []), ([], []), ([2], [2]), ([1, 3], [1, 3]), ([], []), ([4, 5], [4, 5]), ([0, 4, 0], [0]), ([6, 7, 0, 1, 2, 3, 4, 5, 6, 7], [6])])
def tb11_14.B14 : List Nat := [0, 0, 0, 4, 14, 0, 62, 31, 255]
theorem tb11_14.tab14 : rtab .any (opsOf Try.f11 14) = tb11_14.T14 := by kernel_rfl
theorem tb11_14.bits14 : waitsOk tb11_14.T14.2 tb11_14.B14 = true := by kernel_rfl
def tb11_15.T15 : Bool × List (List Nat × List Nat) := (true, [([], []), ([], []), ([], []), ([], []), ([3], [3]), ([], []), ([5], [5]), ([], []), ([7], [7]), ([1, 2, 4, 6, 8, 4], [1, 2, 4, 6, 8]), ([0, 9, 0], [0]), ([9, 10, 0, 1, 2, 3, 4, 5, 6, 7, 8, 9, 10], [9])])
def tb11_15.B15 : List Nat := [0, 0, 0, 0, 8, 0, 32, 0, 128, 510, 1023, 2047]
theorem tb11_15.tab15 : rtab .any (opsOf Try.f11 15) = tb11_15.T15 := by kernel_rfl
theorem tb11_15.bits15 : waitsOk tb11_15.T15.2 tb11_15.B15 = true := by kernel_rfl
set_option maxHeartbeats 8000000 in
set_option maxRecDepth 100000 in
theorem play_addv {w : World} {gc : Nat} {lk : Int} {arcs : Int → Option (Int × Int)} {cls : Int → Option Nat} {row : Nat → List Int} {cb : Nat → Prop} {vs vs' : List Int} {es es' : List (Int × Int × Int)} {G : Gp} {rs : Bool} (h : Pre w gc lk arcs cls row cb G vs es) (e u v : Int)
    (hR : RefP w cb G 23 [(.int .i64 v)] (.bool rs) vs' es') (hC : CondP w gc cb 12 [(.int .i64 v)] (.bool rs) vs' es' (Bnd 1 e u v vs es es' cls row lk)) (hl1 : vs'.length ≤ vs.length + 1) (hl2 : es'.length ≤ es.length + 1) :
    Calls Try.prog 11 #[.pointer (some ⟨gc, 0, none⟩), G.v, .agg #[(.int .i64 1), (.int .i64 e), (.int .i64 u), (.int .i64 v)]] w fun en w' => ∃ G' : Gp, en = .returned (.tuple #[G'.v, .bool true]) ∧ PlayPost w gc lk cls row cb vs es 1 e u v w' G' := by
  have hlt := h.c.lt
  have HN := Lib.hid (show ¬ cb w.heap.size ∧ ¬ cb (w.heap.size + 1) ∧ ¬ cb (w.heap.size + 1 + 1) from ⟨fun hx => by have := hlt _ hx; omega, fun hx => by have := hlt _ hx; omega, fun hx => by have := hlt _ hx; omega⟩)
  have HP := Lib.hid h
  have HLL := Lib.hid (And.intro hl1 hl2)
  unfold RefP at hR
  unfold CondP at hC
  have HC := Lib.hid hC
  have HR := Lib.hid hR
  clear h hC hR hlt hl1 hl2
  obtain ⟨gA, gn, gcc, gE, gm, gce, ggw⟩ := G
  unfold Gp.v gV at HR ⊢
  go_enter Try.func11, Try.ntmps11
  go_wp2_with fail
  have hb1 : Below w.heap.size w (((w.alloc (.cells #[(.slice gA gn gcc), (.slice gE gm gce), (.int .i64 0), (.int .i64 ggw)] 28)).alloc (.cells #[(.int .i64 1), (.int .i64 e), (.int .i64 u), (.int .i64 v)] 32)).alloc (.cells #[(.slice none 0 0), (.slice none 0 0), (.int .i64 0), (.int .i64 0)] 28)) := (((Below.refl _ _).alloc (Nat.le_refl _) _).alloc (by simp) _).alloc (by simp; omega) _
  have hs1 : (((w.alloc (.cells #[(.slice gA gn gcc), (.slice gE gm gce), (.int .i64 0), (.int .i64 ggw)] 28)).alloc (.cells #[(.int .i64 1), (.int .i64 e), (.int .i64 u), (.int .i64 v)] 32)).alloc (.cells #[(.slice none 0 0), (.slice none 0 0), (.int .i64 0), (.int .i64 0)] 28)).heap.size = w.heap.size + 1 + 1 + 1 := by simp
  refine (HR.out _ hb1).mono ?_
  clear HR
  rintro er w2 ⟨⟨xA, xn, xc, xE, xm, xce, xgw⟩, rfl, hg, hb2⟩
  rw [hs1] at hg
  have hat0 : At w2 (w.heap.size) [(.slice gA gn gcc), (.slice gE gm gce), (.int .i64 0), (.int .i64 ggw)] 28 := (((At.made (w := w) (a := #[(.slice gA gn gcc), (.slice gE gm gce), (.int .i64 0), (.int .i64 ggw)]) rfl rfl).al).al).below hb2 (by simp; omega)
  have hat1 : At w2 (w.heap.size + 1) [(.int .i64 1), (.int .i64 e), (.int .i64 u), (.int .i64 v)] 32 := ((At.made (by simp) rfl).al).below hb2 (by simp)
  have hat2 : At w2 (w.heap.size + 1 + 1) [(.slice none 0 0), (.slice none 0 0), (.int .i64 0), (.int .i64 0)] 28 := (At.made (by simp) rfl).below hb2 (by simp)
  have hs2 : w.heap.size + 1 + 1 + 1 ≤ w2.heap.size := by have := hb2.size; rw [hs1] at this; exact this
  have hbw := hb1.trans (hb2.mono (by rw [hs1]; omega))
  have f0 := hat0.free 0
  have f1 := hat0.free 1
  have f2 := hat0.free 2
  have f3 := hat0.free 3
  have r0 := hat0.cell 0 rfl
  have r1 := hat0.cell 1 rfl
  have r2 := hat0.cell 2 rfl
  have r3 := hat0.cell 3 rfl
  have HA := Lib.hid (And.intro hat0 (And.intro hat1 (And.intro hat2 (And.intro hbw (And.intro hs2 hg)))))
  clear hat0 hat1 hat2 hb1 hb2 hs1 hs2 hbw hg
  go_upto_region 5 with (fail)
  refine gen_world (fun W => At W (w.heap.size) [(.slice xA xn xc), (.slice xE xm xce), (.int .i64 0), (.int .i64 xgw)] 28 ∧ At W (w.heap.size + 1) [(.int .i64 1), (.int .i64 e), (.int .i64 u), (.int .i64 v)] 32 ∧ At W (w.heap.size + 1 + 1) [(.slice none 0 0), (.slice none 0 0), (.int .i64 0), (.int .i64 0)] 28 ∧ Below w.heap.size w W ∧ Kpt (fun x => w.heap.size ≤ x ∧ x < w.heap.size + 1 + 1 + 1) w2 W) ⟨(((HA.out.1.put rfl).put rfl).put rfl).put rfl, (((HA.out.2.1.off (by omega)).off (by omega)).off (by omega)).off (by omega), (((HA.out.2.2.1.off (by omega)).off (by omega)).off (by omega)).off (by omega), (((HA.out.2.2.2.1.setCell (by simp) _).setCell (by simp) _).setCell (by simp) _).setCell (by simp) _, ((((Kpt.refl _ w2).set (fun _ => ⟨Nat.le_refl _, by simp; omega⟩) _).set (fun _ => ⟨Nat.le_refl _, by simp; omega⟩) _).set (fun _ => ⟨Nat.le_refl _, by simp; omega⟩) _).set (fun _ => ⟨Nat.le_refl _, by simp; omega⟩) _⟩ ?_
  rintro wy ⟨hat0, hat1, hat2, hby, hky⟩
  clear f0 r0 f1 r1 f2 r2 f3 r3
  obtain ⟨wd, hwd⟩ : ∃ wd, wy.drew = wd := ⟨_, rfl⟩
  have HD := Lib.hid (show At wd (w.heap.size) [(.slice xA xn xc), (.slice xE xm xce), (.int .i64 0), (.int .i64 xgw)] 28 ∧ At wd (w.heap.size + 1) [(.int .i64 1), (.int .i64 e), (.int .i64 u), (.int .i64 v)] 32 ∧ At wd (w.heap.size + 1 + 1) [(.slice none 0 0), (.slice none 0 0), (.int .i64 0), (.int .i64 0)] 28 ∧ Below w.heap.size w wd ∧ Kpt (fun x => w.heap.size ≤ x ∧ x < w.heap.size + 1 + 1 + 1) w2 wd from hwd ▸ ⟨hat0.drew, hat1.drew, hat2.drew, hby.drew, hky.drew⟩)
  clear hat0 hat1 hat2 hby hky
  obtain ⟨hat0, hat1, _⟩ := HD.out
  have q0 := hat0.cell 0 rfl
  have q1 := hat0.cell 1 rfl
  have q2 := hat0.cell 2 rfl
  have q3 := hat0.cell 3 rfl
  have o0 := hat1.cell 0 rfl
  have o1 := hat1.cell 1 rfl
  have o2 := hat1.cell 2 rfl
  have o3 := hat1.cell 3 rfl
  clear hat0 hat1
  refine start_ (n := 9) (S := fun w' => w'.cell? ⟨w.heap.size, 0, none⟩ = some (.slice xA xn xc) ∧ w'.cell? ⟨w.heap.size, 1, none⟩ = some (.slice xE xm xce) ∧ w'.cell? ⟨w.heap.size, 2, none⟩ = some (.int .i64 0) ∧ w'.cell? ⟨w.heap.size, 3, none⟩ = some (.int .i64 xgw) ∧ w'.cell? ⟨w.heap.size + 1, 3, none⟩ = some (.int .i64 v)) (ds := [7]) (bA 9 0) (by kernel_rfl) rfl rfl ⟨(by rw [hwd]; exact q0), (by rw [hwd]; exact q1), (by rw [hwd]; exact q2), (by rw [hwd]; exact q3), (by rw [hwd]; exact o3)⟩ (fun hHeld => ?_)
  rw [hwd] at hHeld ⊢
  refine with_tabW tb11_5.tab5 tb11_5.bits5 (fun HT_ HW_ => ?_)
  refine pw_ 1 22 (bA 9 2) HT_.out ?_
  refine pw_ 2 23 (bA 9 6) HT_.out ?_
  refine pw_ 5 26 (bA 9 38) HT_.out ?_
  refine tw_ 0 21 (bA 9 39) HT_.out HW_.out hHeld (hv := by rintro w' ⟨s0, s1, s2, s3, s4⟩; go_simp; with_reducible rfl) (h := ?_)
  refine tw_ 3 24 (bA 9 47) HT_.out HW_.out hHeld (hv := by rintro w' ⟨s0, s1, s2, s3, s4⟩; go_simp; with_reducible rfl) (h := ?_)
  refine one_ (i := 4) (N := some 25) (bA 9 63) rfl rfl (one_of HT_.out (by kernel_rfl)) (by decide) (fun K hK => ?_)
  refine gw_ Try.func12 #[.pointer (some ⟨gc, 0, none⟩), (.int .i64 v)] ?_
  with_reducible refine ((HC.out wd HD.out.2.2.2.1)).mono ?_
  rintro ec w4 ⟨rfl, hk4, hP⟩
  refine ⟨_, rfl, ?_⟩
  have k0 := HD.out.1.kept hk4 HN.out.1
  have k1 := HD.out.2.1.kept hk4 HN.out.2.1
  have k2 := HD.out.2.2.1.kept hk4 HN.out.2.2
  have f0 := k2.free 0
  have f1 := k2.free 1
  have f2 := k2.free 2
  have f3 := k2.free 3
  have r0 := k2.cell 0 rfl
  have r1 := k2.cell 1 rfl
  have r2 := k2.cell 2 rfl
  have r3 := k2.cell 3 rfl
  have k3 : At ((((w4.setCell ⟨w.heap.size + 1 + 1, 0, none⟩ (.slice xA xn xc)).setCell ⟨w.heap.size + 1 + 1, 1, none⟩ (.slice xE xm xce)).setCell ⟨w.heap.size + 1 + 1, 2, none⟩ (.int .i64 0)).setCell ⟨w.heap.size + 1 + 1, 3, none⟩ (.int .i64 xgw)) (w.heap.size + 1 + 1) [(.slice xA xn xc), (.slice xE xm xce), (.int .i64 0), (.int .i64 xgw)] 28 := (((k2.put rfl).put rfl).put rfl).put rfl
  have t0 := k3.cell 0 rfl
  have t1 := k3.cell 1 rfl
  have t2 := k3.cell 2 rfl
  have t3 := k3.cell 3 rfl
  refine hK.out _ _ ⟨(k0.cell 0 rfl), (k0.cell 1 rfl), (k0.cell 2 rfl), (k0.cell 3 rfl), (k1.cell 3 rfl)⟩ (fun hHeld => ?_)
  clear hK K
  refine norm_ (a' := ?_) ?_ ?_
  rotate_left
  · show Act.put _ (some 25) _ = _
    simp only [Act.put, pA, pB, pC, pD, pE]; rfl
  refine pw_ 6 27 (bA 9 127) HT_.out ?_
  refine last_ (i := 7) (N := none) (bA 9 255) rfl rfl (one_of HT_.out (by kernel_rfl)) (by decide) (fun K hK => ?_)
  refine skip_ (w1 := ?_) (by rfl) rfl ?_ ?_
  rotate_left; · go_simp; rfl
  refine hK.out _ _ ?_; clear hK K
  refine pw_ 8 7 (bA 9 511) HT_.out ?_
  refine done_ (done_of HT_.out (by kernel_rfl)) ?_
  clear hHeld HT_ HW_
  have HK := Lib.hid (And.intro hk4 hP)
  clear k0 k1 k2 k3 hk4 hP q0 o0 q1 o1 q2 o2 q3 o3
  go_wp2
  refine bodyPost_ret (v := .tuple #[.agg #[(.slice xA xn xc), (.slice xE xm xce), (.int .i64 0), (.int .i64 xgw)], .bool true]) ?_ rfl ⟨⟨xA, xn, xc, xE, xm, xce, xgw⟩, rfl, ?_⟩
  · simp only [results]; go_simp
  · exact play_end HP.out HA.out.2.2.2.1 HA.out.2.2.2.2.1 HA.out.2.2.2.2.2 HD.out.2.2.2.2 HK.out.1 HK.out.2 (((((Kpt.refl (fun x => x = w.heap.size + 1 + 1) w4).set (fun _ => rfl) _).set (fun _ => rfl) _).set (fun _ => rfl) _).set (fun _ => rfl) _) HLL.out.1 HLL.out.2

set_option maxHeartbeats 8000000 in
set_option maxRecDepth 100000 in
theorem play_dropv {w : World} {gc : Nat} {lk : Int} {arcs : Int → Option (Int × Int)} {cls : Int → Option Nat} {row : Nat → List Int} {cb : Nat → Prop} {vs vs' : List Int} {es es' : List (Int × Int × Int)} {G : Gp} {rs : Bool} (h : Pre w gc lk arcs cls row cb G vs es) (e u v : Int)
    (hR : RefP w cb G 24 [(.int .i64 v)] (.bool rs) vs' es') (hC : CondP w gc cb 25 [(.int .i64 v)] (.bool rs) vs' es' (Bnd 2 e u v vs es es' cls row lk)) (hl1 : vs'.length ≤ vs.length + 1) (hl2 : es'.length ≤ es.length + 1) :
    Calls Try.prog 11 #[.pointer (some ⟨gc, 0, none⟩), G.v, .agg #[(.int .i64 2), (.int .i64 e), (.int .i64 u), (.int .i64 v)]] w fun en w' => ∃ G' : Gp, en = .returned (.tuple #[G'.v, .bool true]) ∧ PlayPost w gc lk cls row cb vs es 2 e u v w' G' := by
  have hlt := h.c.lt
  have HN := Lib.hid (show ¬ cb w.heap.size ∧ ¬ cb (w.heap.size + 1) ∧ ¬ cb (w.heap.size + 1 + 1) from ⟨fun hx => by have := hlt _ hx; omega, fun hx => by have := hlt _ hx; omega, fun hx => by have := hlt _ hx; omega⟩)
  have HP := Lib.hid h
  have HLL := Lib.hid (And.intro hl1 hl2)
  unfold RefP at hR
  unfold CondP at hC
  have HC := Lib.hid hC
  have HR := Lib.hid hR
  clear h hC hR hlt hl1 hl2
  obtain ⟨gA, gn, gcc, gE, gm, gce, ggw⟩ := G
  unfold Gp.v gV at HR ⊢
  go_enter Try.func11, Try.ntmps11
  go_wp2_with fail
  have hb1 : Below w.heap.size w (((w.alloc (.cells #[(.slice gA gn gcc), (.slice gE gm gce), (.int .i64 0), (.int .i64 ggw)] 28)).alloc (.cells #[(.int .i64 2), (.int .i64 e), (.int .i64 u), (.int .i64 v)] 32)).alloc (.cells #[(.slice none 0 0), (.slice none 0 0), (.int .i64 0), (.int .i64 0)] 28)) := (((Below.refl _ _).alloc (Nat.le_refl _) _).alloc (by simp) _).alloc (by simp; omega) _
  have hs1 : (((w.alloc (.cells #[(.slice gA gn gcc), (.slice gE gm gce), (.int .i64 0), (.int .i64 ggw)] 28)).alloc (.cells #[(.int .i64 2), (.int .i64 e), (.int .i64 u), (.int .i64 v)] 32)).alloc (.cells #[(.slice none 0 0), (.slice none 0 0), (.int .i64 0), (.int .i64 0)] 28)).heap.size = w.heap.size + 1 + 1 + 1 := by simp
  refine (HR.out _ hb1).mono ?_
  clear HR
  rintro er w2 ⟨⟨xA, xn, xc, xE, xm, xce, xgw⟩, rfl, hg, hb2⟩
  rw [hs1] at hg
  have hat0 : At w2 (w.heap.size) [(.slice gA gn gcc), (.slice gE gm gce), (.int .i64 0), (.int .i64 ggw)] 28 := (((At.made (w := w) (a := #[(.slice gA gn gcc), (.slice gE gm gce), (.int .i64 0), (.int .i64 ggw)]) rfl rfl).al).al).below hb2 (by simp; omega)
  have hat1 : At w2 (w.heap.size + 1) [(.int .i64 2), (.int .i64 e), (.int .i64 u), (.int .i64 v)] 32 := ((At.made (by simp) rfl).al).below hb2 (by simp)
  have hat2 : At w2 (w.heap.size + 1 + 1) [(.slice none 0 0), (.slice none 0 0), (.int .i64 0), (.int .i64 0)] 28 := (At.made (by simp) rfl).below hb2 (by simp)
  have hs2 : w.heap.size + 1 + 1 + 1 ≤ w2.heap.size := by have := hb2.size; rw [hs1] at this; exact this
  have hbw := hb1.trans (hb2.mono (by rw [hs1]; omega))
  have f0 := hat0.free 0
  have f1 := hat0.free 1
  have f2 := hat0.free 2
  have f3 := hat0.free 3
  have r0 := hat0.cell 0 rfl
  have r1 := hat0.cell 1 rfl
  have r2 := hat0.cell 2 rfl
  have r3 := hat0.cell 3 rfl
  have HA := Lib.hid (And.intro hat0 (And.intro hat1 (And.intro hat2 (And.intro hbw (And.intro hs2 hg)))))
  clear hat0 hat1 hat2 hb1 hb2 hs1 hs2 hbw hg
  go_upto_region 8 with (fail)
  refine gen_world (fun W => At W (w.heap.size) [(.slice xA xn xc), (.slice xE xm xce), (.int .i64 0), (.int .i64 xgw)] 28 ∧ At W (w.heap.size + 1) [(.int .i64 2), (.int .i64 e), (.int .i64 u), (.int .i64 v)] 32 ∧ At W (w.heap.size + 1 + 1) [(.slice none 0 0), (.slice none 0 0), (.int .i64 0), (.int .i64 0)] 28 ∧ Below w.heap.size w W ∧ Kpt (fun x => w.heap.size ≤ x ∧ x < w.heap.size + 1 + 1 + 1) w2 W) ⟨(((HA.out.1.put rfl).put rfl).put rfl).put rfl, (((HA.out.2.1.off (by omega)).off (by omega)).off (by omega)).off (by omega), (((HA.out.2.2.1.off (by omega)).off (by omega)).off (by omega)).off (by omega), (((HA.out.2.2.2.1.setCell (by simp) _).setCell (by simp) _).setCell (by simp) _).setCell (by simp) _, ((((Kpt.refl _ w2).set (fun _ => ⟨Nat.le_refl _, by simp; omega⟩) _).set (fun _ => ⟨Nat.le_refl _, by simp; omega⟩) _).set (fun _ => ⟨Nat.le_refl _, by simp; omega⟩) _).set (fun _ => ⟨Nat.le_refl _, by simp; omega⟩) _⟩ ?_
  rintro wy ⟨hat0, hat1, hat2, hby, hky⟩
  clear f0 r0 f1 r1 f2 r2 f3 r3
  obtain ⟨wd, hwd⟩ : ∃ wd, wy.drew = wd := ⟨_, rfl⟩
  have HD := Lib.hid (show At wd (w.heap.size) [(.slice xA xn xc), (.slice xE xm xce), (.int .i64 0), (.int .i64 xgw)] 28 ∧ At wd (w.heap.size + 1) [(.int .i64 2), (.int .i64 e), (.int .i64 u), (.int .i64 v)] 32 ∧ At wd (w.heap.size + 1 + 1) [(.slice none 0 0), (.slice none 0 0), (.int .i64 0), (.int .i64 0)] 28 ∧ Below w.heap.size w wd ∧ Kpt (fun x => w.heap.size ≤ x ∧ x < w.heap.size + 1 + 1 + 1) w2 wd from hwd ▸ ⟨hat0.drew, hat1.drew, hat2.drew, hby.drew, hky.drew⟩)
  clear hat0 hat1 hat2 hby hky
  obtain ⟨hat0, hat1, _⟩ := HD.out
  have q0 := hat0.cell 0 rfl
  have q1 := hat0.cell 1 rfl
  have q2 := hat0.cell 2 rfl
  have q3 := hat0.cell 3 rfl
  have o0 := hat1.cell 0 rfl
  have o1 := hat1.cell 1 rfl
  have o2 := hat1.cell 2 rfl
  have o3 := hat1.cell 3 rfl
  clear hat0 hat1
  refine start_ (n := 9) (S := fun w' => w'.cell? ⟨w.heap.size, 0, none⟩ = some (.slice xA xn xc) ∧ w'.cell? ⟨w.heap.size, 1, none⟩ = some (.slice xE xm xce) ∧ w'.cell? ⟨w.heap.size, 2, none⟩ = some (.int .i64 0) ∧ w'.cell? ⟨w.heap.size, 3, none⟩ = some (.int .i64 xgw) ∧ w'.cell? ⟨w.heap.size + 1, 3, none⟩ = some (.int .i64 v)) (ds := [7]) (bA 9 0) (by kernel_rfl) rfl rfl ⟨(by rw [hwd]; exact q0), (by rw [hwd]; exact q1), (by rw [hwd]; exact q2), (by rw [hwd]; exact q3), (by rw [hwd]; exact o3)⟩ (fun hHeld => ?_)
  rw [hwd] at hHeld ⊢
  refine with_tabW tb11_8.tab8 tb11_8.bits8 (fun HT_ HW_ => ?_)
  refine pw_ 1 38 (bA 9 2) HT_.out ?_
  refine pw_ 2 39 (bA 9 6) HT_.out ?_
  refine pw_ 5 42 (bA 9 38) HT_.out ?_
  refine tw_ 0 37 (bA 9 39) HT_.out HW_.out hHeld (hv := by rintro w' ⟨s0, s1, s2, s3, s4⟩; go_simp; with_reducible rfl) (h := ?_)
  refine tw_ 3 40 (bA 9 47) HT_.out HW_.out hHeld (hv := by rintro w' ⟨s0, s1, s2, s3, s4⟩; go_simp; with_reducible rfl) (h := ?_)
  refine one_ (i := 4) (N := some 41) (bA 9 63) rfl rfl (one_of HT_.out (by kernel_rfl)) (by decide) (fun K hK => ?_)
  refine gw_ Try.func25 #[.pointer (some ⟨gc, 0, none⟩), (.int .i64 v)] ?_
  with_reducible refine ((HC.out wd HD.out.2.2.2.1)).mono ?_
  rintro ec w4 ⟨rfl, hk4, hP⟩
  refine ⟨_, rfl, ?_⟩
  have k0 := HD.out.1.kept hk4 HN.out.1
  have k1 := HD.out.2.1.kept hk4 HN.out.2.1
  have k2 := HD.out.2.2.1.kept hk4 HN.out.2.2
  have f0 := k2.free 0
  have f1 := k2.free 1
  have f2 := k2.free 2
  have f3 := k2.free 3
  have r0 := k2.cell 0 rfl
  have r1 := k2.cell 1 rfl
  have r2 := k2.cell 2 rfl
  have r3 := k2.cell 3 rfl
  have k3 : At ((((w4.setCell ⟨w.heap.size + 1 + 1, 0, none⟩ (.slice xA xn xc)).setCell ⟨w.heap.size + 1 + 1, 1, none⟩ (.slice xE xm xce)).setCell ⟨w.heap.size + 1 + 1, 2, none⟩ (.int .i64 0)).setCell ⟨w.heap.size + 1 + 1, 3, none⟩ (.int .i64 xgw)) (w.heap.size + 1 + 1) [(.slice xA xn xc), (.slice xE xm xce), (.int .i64 0), (.int .i64 xgw)] 28 := (((k2.put rfl).put rfl).put rfl).put rfl
  have t0 := k3.cell 0 rfl
  have t1 := k3.cell 1 rfl
  have t2 := k3.cell 2 rfl
  have t3 := k3.cell 3 rfl
  refine hK.out _ _ ⟨(k0.cell 0 rfl), (k0.cell 1 rfl), (k0.cell 2 rfl), (k0.cell 3 rfl), (k1.cell 3 rfl)⟩ (fun hHeld => ?_)
  clear hK K
  refine norm_ (a' := ?_) ?_ ?_
  rotate_left
  · show Act.put _ (some 41) _ = _
    simp only [Act.put, pA, pB, pC, pD, pE]; rfl
  refine pw_ 6 43 (bA 9 127) HT_.out ?_
  refine last_ (i := 7) (N := none) (bA 9 255) rfl rfl (one_of HT_.out (by kernel_rfl)) (by decide) (fun K hK => ?_)
  refine skip_ (w1 := ?_) (by rfl) rfl ?_ ?_
  rotate_left; · go_simp; rfl
  refine hK.out _ _ ?_; clear hK K
  refine pw_ 8 7 (bA 9 511) HT_.out ?_
  refine done_ (done_of HT_.out (by kernel_rfl)) ?_
  clear hHeld HT_ HW_
  have HK := Lib.hid (And.intro hk4 hP)
  clear k0 k1 k2 k3 hk4 hP q0 o0 q1 o1 q2 o2 q3 o3
  go_wp2
  refine bodyPost_ret (v := .tuple #[.agg #[(.slice xA xn xc), (.slice xE xm xce), (.int .i64 0), (.int .i64 xgw)], .bool true]) ?_ rfl ⟨⟨xA, xn, xc, xE, xm, xce, xgw⟩, rfl, ?_⟩
  · simp only [results]; go_simp
  · exact play_end HP.out HA.out.2.2.2.1 HA.out.2.2.2.2.1 HA.out.2.2.2.2.2 HD.out.2.2.2.2 HK.out.1 HK.out.2 (((((Kpt.refl (fun x => x = w.heap.size + 1 + 1) w4).set (fun _ => rfl) _).set (fun _ => rfl) _).set (fun _ => rfl) _).set (fun _ => rfl) _) HLL.out.1 HLL.out.2

set_option maxHeartbeats 8000000 in
set_option maxRecDepth 100000 in
theorem play_adda {w : World} {gc : Nat} {lk : Int} {arcs : Int → Option (Int × Int)} {cls : Int → Option Nat} {row : Nat → List Int} {cb : Nat → Prop} {vs vs' : List Int} {es es' : List (Int × Int × Int)} {G : Gp} {rs : Int} (h : Pre w gc lk arcs cls row cb G vs es) (e u v : Int)
    (hR : RefP w cb G 26 [(.int .i64 e), (.int .i64 u), (.int .i64 v)] (.int .i64 rs) vs' es') (hC : CondP w gc cb 13 [(.int .i64 e), (.int .i64 u), (.int .i64 v)] (.int .i64 rs) vs' es' (Bnd 3 e u v vs es es' cls row lk)) (hl1 : vs'.length ≤ vs.length + 1) (hl2 : es'.length ≤ es.length + 1) :
    Calls Try.prog 11 #[.pointer (some ⟨gc, 0, none⟩), G.v, .agg #[(.int .i64 3), (.int .i64 e), (.int .i64 u), (.int .i64 v)]] w fun en w' => ∃ G' : Gp, en = .returned (.tuple #[G'.v, .bool true]) ∧ PlayPost w gc lk cls row cb vs es 3 e u v w' G' := by
  have hlt := h.c.lt
  have HN := Lib.hid (show ¬ cb w.heap.size ∧ ¬ cb (w.heap.size + 1) ∧ ¬ cb (w.heap.size + 1 + 1) from ⟨fun hx => by have := hlt _ hx; omega, fun hx => by have := hlt _ hx; omega, fun hx => by have := hlt _ hx; omega⟩)
  have HP := Lib.hid h
  have HLL := Lib.hid (And.intro hl1 hl2)
  unfold RefP at hR
  unfold CondP at hC
  have HC := Lib.hid hC
  have HR := Lib.hid hR
  clear h hC hR hlt hl1 hl2
  obtain ⟨gA, gn, gcc, gE, gm, gce, ggw⟩ := G
  unfold Gp.v gV at HR ⊢
  go_enter Try.func11, Try.ntmps11
  go_wp2_with fail
  have hb1 : Below w.heap.size w (((w.alloc (.cells #[(.slice gA gn gcc), (.slice gE gm gce), (.int .i64 0), (.int .i64 ggw)] 28)).alloc (.cells #[(.int .i64 3), (.int .i64 e), (.int .i64 u), (.int .i64 v)] 32)).alloc (.cells #[(.slice none 0 0), (.slice none 0 0), (.int .i64 0), (.int .i64 0)] 28)) := (((Below.refl _ _).alloc (Nat.le_refl _) _).alloc (by simp) _).alloc (by simp; omega) _
  have hs1 : (((w.alloc (.cells #[(.slice gA gn gcc), (.slice gE gm gce), (.int .i64 0), (.int .i64 ggw)] 28)).alloc (.cells #[(.int .i64 3), (.int .i64 e), (.int .i64 u), (.int .i64 v)] 32)).alloc (.cells #[(.slice none 0 0), (.slice none 0 0), (.int .i64 0), (.int .i64 0)] 28)).heap.size = w.heap.size + 1 + 1 + 1 := by simp
  refine (HR.out _ hb1).mono ?_
  clear HR
  rintro er w2 ⟨⟨xA, xn, xc, xE, xm, xce, xgw⟩, rfl, hg, hb2⟩
  rw [hs1] at hg
  have hat0 : At w2 (w.heap.size) [(.slice gA gn gcc), (.slice gE gm gce), (.int .i64 0), (.int .i64 ggw)] 28 := (((At.made (w := w) (a := #[(.slice gA gn gcc), (.slice gE gm gce), (.int .i64 0), (.int .i64 ggw)]) rfl rfl).al).al).below hb2 (by simp; omega)
  have hat1 : At w2 (w.heap.size + 1) [(.int .i64 3), (.int .i64 e), (.int .i64 u), (.int .i64 v)] 32 := ((At.made (by simp) rfl).al).below hb2 (by simp)
  have hat2 : At w2 (w.heap.size + 1 + 1) [(.slice none 0 0), (.slice none 0 0), (.int .i64 0), (.int .i64 0)] 28 := (At.made (by simp) rfl).below hb2 (by simp)
  have hs2 : w.heap.size + 1 + 1 + 1 ≤ w2.heap.size := by have := hb2.size; rw [hs1] at this; exact this
  have hbw := hb1.trans (hb2.mono (by rw [hs1]; omega))
  have f0 := hat0.free 0
  have f1 := hat0.free 1
  have f2 := hat0.free 2
  have f3 := hat0.free 3
  have r0 := hat0.cell 0 rfl
  have r1 := hat0.cell 1 rfl
  have r2 := hat0.cell 2 rfl
  have r3 := hat0.cell 3 rfl
  have HA := Lib.hid (And.intro hat0 (And.intro hat1 (And.intro hat2 (And.intro hbw (And.intro hs2 hg)))))
  clear hat0 hat1 hat2 hb1 hb2 hs1 hs2 hbw hg
  go_upto_region 11 with (fail)
  refine gen_world (fun W => At W (w.heap.size) [(.slice xA xn xc), (.slice xE xm xce), (.int .i64 0), (.int .i64 xgw)] 28 ∧ At W (w.heap.size + 1) [(.int .i64 3), (.int .i64 e), (.int .i64 u), (.int .i64 v)] 32 ∧ At W (w.heap.size + 1 + 1) [(.slice none 0 0), (.slice none 0 0), (.int .i64 0), (.int .i64 0)] 28 ∧ Below w.heap.size w W ∧ Kpt (fun x => w.heap.size ≤ x ∧ x < w.heap.size + 1 + 1 + 1) w2 W) ⟨(((HA.out.1.put rfl).put rfl).put rfl).put rfl, (((HA.out.2.1.off (by omega)).off (by omega)).off (by omega)).off (by omega), (((HA.out.2.2.1.off (by omega)).off (by omega)).off (by omega)).off (by omega), (((HA.out.2.2.2.1.setCell (by simp) _).setCell (by simp) _).setCell (by simp) _).setCell (by simp) _, ((((Kpt.refl _ w2).set (fun _ => ⟨Nat.le_refl _, by simp; omega⟩) _).set (fun _ => ⟨Nat.le_refl _, by simp; omega⟩) _).set (fun _ => ⟨Nat.le_refl _, by simp; omega⟩) _).set (fun _ => ⟨Nat.le_refl _, by simp; omega⟩) _⟩ ?_
  rintro wy ⟨hat0, hat1, hat2, hby, hky⟩
  clear f0 r0 f1 r1 f2 r2 f3 r3
  obtain ⟨wd, hwd⟩ : ∃ wd, wy.drew = wd := ⟨_, rfl⟩
  have HD := Lib.hid (show At wd (w.heap.size) [(.slice xA xn xc), (.slice xE xm xce), (.int .i64 0), (.int .i64 xgw)] 28 ∧ At wd (w.heap.size + 1) [(.int .i64 3), (.int .i64 e), (.int .i64 u), (.int .i64 v)] 32 ∧ At wd (w.heap.size + 1 + 1) [(.slice none 0 0), (.slice none 0 0), (.int .i64 0), (.int .i64 0)] 28 ∧ Below w.heap.size w wd ∧ Kpt (fun x => w.heap.size ≤ x ∧ x < w.heap.size + 1 + 1 + 1) w2 wd from hwd ▸ ⟨hat0.drew, hat1.drew, hat2.drew, hby.drew, hky.drew⟩)
  clear hat0 hat1 hat2 hby hky
  obtain ⟨hat0, hat1, _⟩ := HD.out
  have q0 := hat0.cell 0 rfl
  have q1 := hat0.cell 1 rfl
  have q2 := hat0.cell 2 rfl
  have q3 := hat0.cell 3 rfl
  have o0 := hat1.cell 0 rfl
  have o1 := hat1.cell 1 rfl
  have o2 := hat1.cell 2 rfl
  have o3 := hat1.cell 3 rfl
  clear hat0 hat1
  refine start_ (n := 13) (S := fun w' => w'.cell? ⟨w.heap.size, 0, none⟩ = some (.slice xA xn xc) ∧ w'.cell? ⟨w.heap.size, 1, none⟩ = some (.slice xE xm xce) ∧ w'.cell? ⟨w.heap.size, 2, none⟩ = some (.int .i64 0) ∧ w'.cell? ⟨w.heap.size, 3, none⟩ = some (.int .i64 xgw) ∧ w'.cell? ⟨w.heap.size + 1, 1, none⟩ = some (.int .i64 e) ∧ w'.cell? ⟨w.heap.size + 1, 2, none⟩ = some (.int .i64 u) ∧ w'.cell? ⟨w.heap.size + 1, 3, none⟩ = some (.int .i64 v)) (ds := [11]) (bA 13 0) (by kernel_rfl) rfl rfl ⟨(by rw [hwd]; exact q0), (by rw [hwd]; exact q1), (by rw [hwd]; exact q2), (by rw [hwd]; exact q3), (by rw [hwd]; exact o1), (by rw [hwd]; exact o2), (by rw [hwd]; exact o3)⟩ (fun hHeld => ?_)
  rw [hwd] at hHeld ⊢
  refine with_tabW tb11_11.tab11 tb11_11.bits11 (fun HT_ HW_ => ?_)
  refine pw_ 1 58 (bA 13 2) HT_.out ?_
  refine pw_ 2 59 (bA 13 6) HT_.out ?_
  refine pw_ 4 61 (bA 13 22) HT_.out ?_
  refine pw_ 6 63 (bA 13 86) HT_.out ?_
  refine pw_ 9 66 (bA 13 598) HT_.out ?_
  refine tw_ 0 57 (bA 13 599) HT_.out HW_.out hHeld (hv := by rintro w' ⟨s0, s1, s2, s3, s4, s5, s6⟩; go_simp; with_reducible rfl) (h := ?_)
  refine tw_ 3 60 (bA 13 607) HT_.out HW_.out hHeld (hv := by rintro w' ⟨s0, s1, s2, s3, s4, s5, s6⟩; go_simp; with_reducible rfl) (h := ?_)
  refine tw_ 5 62 (bA 13 639) HT_.out HW_.out hHeld (hv := by rintro w' ⟨s0, s1, s2, s3, s4, s5, s6⟩; go_simp; with_reducible rfl) (h := ?_)
  refine tw_ 7 64 (bA 13 767) HT_.out HW_.out hHeld (hv := by rintro w' ⟨s0, s1, s2, s3, s4, s5, s6⟩; go_simp; with_reducible rfl) (h := ?_)
  refine one_ (i := 8) (N := some 65) (bA 13 1023) rfl rfl (one_of HT_.out (by kernel_rfl)) (by decide) (fun K hK => ?_)
  refine gw_ Try.func13 #[.pointer (some ⟨gc, 0, none⟩), (.int .i64 e), (.int .i64 u), (.int .i64 v)] ?_
  with_reducible refine ((HC.out wd HD.out.2.2.2.1)).mono ?_
  rintro ec w4 ⟨rfl, hk4, hP⟩
  refine ⟨_, rfl, ?_⟩
  have k0 := HD.out.1.kept hk4 HN.out.1
  have k1 := HD.out.2.1.kept hk4 HN.out.2.1
  have k2 := HD.out.2.2.1.kept hk4 HN.out.2.2
  have f0 := k2.free 0
  have f1 := k2.free 1
  have f2 := k2.free 2
  have f3 := k2.free 3
  have r0 := k2.cell 0 rfl
  have r1 := k2.cell 1 rfl
  have r2 := k2.cell 2 rfl
  have r3 := k2.cell 3 rfl
  have k3 : At ((((w4.setCell ⟨w.heap.size + 1 + 1, 0, none⟩ (.slice xA xn xc)).setCell ⟨w.heap.size + 1 + 1, 1, none⟩ (.slice xE xm xce)).setCell ⟨w.heap.size + 1 + 1, 2, none⟩ (.int .i64 0)).setCell ⟨w.heap.size + 1 + 1, 3, none⟩ (.int .i64 xgw)) (w.heap.size + 1 + 1) [(.slice xA xn xc), (.slice xE xm xce), (.int .i64 0), (.int .i64 xgw)] 28 := (((k2.put rfl).put rfl).put rfl).put rfl
  have t0 := k3.cell 0 rfl
  have t1 := k3.cell 1 rfl
  have t2 := k3.cell 2 rfl
  have t3 := k3.cell 3 rfl
  refine hK.out _ _ ⟨(k0.cell 0 rfl), (k0.cell 1 rfl), (k0.cell 2 rfl), (k0.cell 3 rfl), (k1.cell 1 rfl), (k1.cell 2 rfl), (k1.cell 3 rfl)⟩ (fun hHeld => ?_)
  clear hK K
  refine norm_ (a' := ?_) ?_ ?_
  rotate_left
  · show Act.put _ (some 65) _ = _
    simp only [Act.put, pA, pB, pC, pD, pE]; rfl
  refine pw_ 10 67 (bA 13 2047) HT_.out ?_
  refine last_ (i := 11) (N := none) (bA 13 4095) rfl rfl (one_of HT_.out (by kernel_rfl)) (by decide) (fun K hK => ?_)
  refine skip_ (w1 := ?_) (by rfl) rfl ?_ ?_
  rotate_left; · go_simp; rfl
  refine hK.out _ _ ?_; clear hK K
  refine pw_ 12 7 (bA 13 8191) HT_.out ?_
  refine done_ (done_of HT_.out (by kernel_rfl)) ?_
  clear hHeld HT_ HW_
  have HK := Lib.hid (And.intro hk4 hP)
  clear k0 k1 k2 k3 hk4 hP q0 o0 q1 o1 q2 o2 q3 o3
  go_wp2
  refine bodyPost_ret (v := .tuple #[.agg #[(.slice xA xn xc), (.slice xE xm xce), (.int .i64 0), (.int .i64 xgw)], .bool true]) ?_ rfl ⟨⟨xA, xn, xc, xE, xm, xce, xgw⟩, rfl, ?_⟩
  · simp only [results]; go_simp
  · exact play_end HP.out HA.out.2.2.2.1 HA.out.2.2.2.2.1 HA.out.2.2.2.2.2 HD.out.2.2.2.2 HK.out.1 HK.out.2 (((((Kpt.refl (fun x => x = w.heap.size + 1 + 1) w4).set (fun _ => rfl) _).set (fun _ => rfl) _).set (fun _ => rfl) _).set (fun _ => rfl) _) HLL.out.1 HLL.out.2

set_option maxHeartbeats 8000000 in
set_option maxRecDepth 100000 in
theorem play_dela {w : World} {gc : Nat} {lk : Int} {arcs : Int → Option (Int × Int)} {cls : Int → Option Nat} {row : Nat → List Int} {cb : Nat → Prop} {vs vs' : List Int} {es es' : List (Int × Int × Int)} {G : Gp} {rs : Int} (h : Pre w gc lk arcs cls row cb G vs es) (e u v : Int)
    (hR : RefP w cb G 27 [(.int .i64 e)] (.int .i64 rs) vs' es') (hC : CondP w gc cb 14 [(.int .i64 e)] (.int .i64 rs) vs' es' (Bnd 4 e u v vs es es' cls row lk)) (hl1 : vs'.length ≤ vs.length + 1) (hl2 : es'.length ≤ es.length + 1) :
    Calls Try.prog 11 #[.pointer (some ⟨gc, 0, none⟩), G.v, .agg #[(.int .i64 4), (.int .i64 e), (.int .i64 u), (.int .i64 v)]] w fun en w' => ∃ G' : Gp, en = .returned (.tuple #[G'.v, .bool true]) ∧ PlayPost w gc lk cls row cb vs es 4 e u v w' G' := by
  have hlt := h.c.lt
  have HN := Lib.hid (show ¬ cb w.heap.size ∧ ¬ cb (w.heap.size + 1) ∧ ¬ cb (w.heap.size + 1 + 1) from ⟨fun hx => by have := hlt _ hx; omega, fun hx => by have := hlt _ hx; omega, fun hx => by have := hlt _ hx; omega⟩)
  have HP := Lib.hid h
  have HLL := Lib.hid (And.intro hl1 hl2)
  unfold RefP at hR
  unfold CondP at hC
  have HC := Lib.hid hC
  have HR := Lib.hid hR
  clear h hC hR hlt hl1 hl2
  obtain ⟨gA, gn, gcc, gE, gm, gce, ggw⟩ := G
  unfold Gp.v gV at HR ⊢
  go_enter Try.func11, Try.ntmps11
  go_wp2_with fail
  have hb1 : Below w.heap.size w (((w.alloc (.cells #[(.slice gA gn gcc), (.slice gE gm gce), (.int .i64 0), (.int .i64 ggw)] 28)).alloc (.cells #[(.int .i64 4), (.int .i64 e), (.int .i64 u), (.int .i64 v)] 32)).alloc (.cells #[(.slice none 0 0), (.slice none 0 0), (.int .i64 0), (.int .i64 0)] 28)) := (((Below.refl _ _).alloc (Nat.le_refl _) _).alloc (by simp) _).alloc (by simp; omega) _
  have hs1 : (((w.alloc (.cells #[(.slice gA gn gcc), (.slice gE gm gce), (.int .i64 0), (.int .i64 ggw)] 28)).alloc (.cells #[(.int .i64 4), (.int .i64 e), (.int .i64 u), (.int .i64 v)] 32)).alloc (.cells #[(.slice none 0 0), (.slice none 0 0), (.int .i64 0), (.int .i64 0)] 28)).heap.size = w.heap.size + 1 + 1 + 1 := by simp
  refine (HR.out _ hb1).mono ?_
  clear HR
  rintro er w2 ⟨⟨xA, xn, xc, xE, xm, xce, xgw⟩, rfl, hg, hb2⟩
  rw [hs1] at hg
  have hat0 : At w2 (w.heap.size) [(.slice gA gn gcc), (.slice gE gm gce), (.int .i64 0), (.int .i64 ggw)] 28 := (((At.made (w := w) (a := #[(.slice gA gn gcc), (.slice gE gm gce), (.int .i64 0), (.int .i64 ggw)]) rfl rfl).al).al).below hb2 (by simp; omega)
  have hat1 : At w2 (w.heap.size + 1) [(.int .i64 4), (.int .i64 e), (.int .i64 u), (.int .i64 v)] 32 := ((At.made (by simp) rfl).al).below hb2 (by simp)
  have hat2 : At w2 (w.heap.size + 1 + 1) [(.slice none 0 0), (.slice none 0 0), (.int .i64 0), (.int .i64 0)] 28 := (At.made (by simp) rfl).below hb2 (by simp)
  have hs2 : w.heap.size + 1 + 1 + 1 ≤ w2.heap.size := by have := hb2.size; rw [hs1] at this; exact this
  have hbw := hb1.trans (hb2.mono (by rw [hs1]; omega))
  have f0 := hat0.free 0
  have f1 := hat0.free 1
  have f2 := hat0.free 2
  have f3 := hat0.free 3
  have r0 := hat0.cell 0 rfl
  have r1 := hat0.cell 1 rfl
  have r2 := hat0.cell 2 rfl
  have r3 := hat0.cell 3 rfl
  have HA := Lib.hid (And.intro hat0 (And.intro hat1 (And.intro hat2 (And.intro hbw (And.intro hs2 hg)))))
  clear hat0 hat1 hat2 hb1 hb2 hs1 hs2 hbw hg
  go_upto_region 14 with (fail)
  refine gen_world (fun W => At W (w.heap.size) [(.slice xA xn xc), (.slice xE xm xce), (.int .i64 0), (.int .i64 xgw)] 28 ∧ At W (w.heap.size + 1) [(.int .i64 4), (.int .i64 e), (.int .i64 u), (.int .i64 v)] 32 ∧ At W (w.heap.size + 1 + 1) [(.slice none 0 0), (.slice none 0 0), (.int .i64 0), (.int .i64 0)] 28 ∧ Below w.heap.size w W ∧ Kpt (fun x => w.heap.size ≤ x ∧ x < w.heap.size + 1 + 1 + 1) w2 W) ⟨(((HA.out.1.put rfl).put rfl).put rfl).put rfl, (((HA.out.2.1.off (by omega)).off (by omega)).off (by omega)).off (by omega), (((HA.out.2.2.1.off (by omega)).off (by omega)).off (by omega)).off (by omega), (((HA.out.2.2.2.1.setCell (by simp) _).setCell (by simp) _).setCell (by simp) _).setCell (by simp) _, ((((Kpt.refl _ w2).set (fun _ => ⟨Nat.le_refl _, by simp; omega⟩) _).set (fun _ => ⟨Nat.le_refl _, by simp; omega⟩) _).set (fun _ => ⟨Nat.le_refl _, by simp; omega⟩) _).set (fun _ => ⟨Nat.le_refl _, by simp; omega⟩) _⟩ ?_
  rintro wy ⟨hat0, hat1, hat2, hby, hky⟩
  clear f0 r0 f1 r1 f2 r2 f3 r3
  obtain ⟨wd, hwd⟩ : ∃ wd, wy.drew = wd := ⟨_, rfl⟩
  have HD := Lib.hid (show At wd (w.heap.size) [(.slice xA xn xc), (.slice xE xm xce), (.int .i64 0), (.int .i64 xgw)] 28 ∧ At wd (w.heap.size + 1) [(.int .i64 4), (.int .i64 e), (.int .i64 u), (.int .i64 v)] 32 ∧ At wd (w.heap.size + 1 + 1) [(.slice none 0 0), (.slice none 0 0), (.int .i64 0), (.int .i64 0)] 28 ∧ Below w.heap.size w wd ∧ Kpt (fun x => w.heap.size ≤ x ∧ x < w.heap.size + 1 + 1 + 1) w2 wd from hwd ▸ ⟨hat0.drew, hat1.drew, hat2.drew, hby.drew, hky.drew⟩)
  clear hat0 hat1 hat2 hby hky
  obtain ⟨hat0, hat1, _⟩ := HD.out
  have q0 := hat0.cell 0 rfl
  have q1 := hat0.cell 1 rfl
  have q2 := hat0.cell 2 rfl
  have q3 := hat0.cell 3 rfl
  have o0 := hat1.cell 0 rfl
  have o1 := hat1.cell 1 rfl
  have o2 := hat1.cell 2 rfl
  have o3 := hat1.cell 3 rfl
  clear hat0 hat1
  refine start_ (n := 9) (S := fun w' => w'.cell? ⟨w.heap.size, 0, none⟩ = some (.slice xA xn xc) ∧ w'.cell? ⟨w.heap.size, 1, none⟩ = some (.slice xE xm xce) ∧ w'.cell? ⟨w.heap.size, 2, none⟩ = some (.int .i64 0) ∧ w'.cell? ⟨w.heap.size, 3, none⟩ = some (.int .i64 xgw) ∧ w'.cell? ⟨w.heap.size + 1, 1, none⟩ = some (.int .i64 e)) (ds := [7]) (bA 9 0) (by kernel_rfl) rfl rfl ⟨(by rw [hwd]; exact q0), (by rw [hwd]; exact q1), (by rw [hwd]; exact q2), (by rw [hwd]; exact q3), (by rw [hwd]; exact o1)⟩ (fun hHeld => ?_)
  rw [hwd] at hHeld ⊢
  refine with_tabW tb11_14.tab14 tb11_14.bits14 (fun HT_ HW_ => ?_)
  refine pw_ 1 78 (bA 9 2) HT_.out ?_
  refine pw_ 2 79 (bA 9 6) HT_.out ?_
  refine pw_ 5 82 (bA 9 38) HT_.out ?_
  refine tw_ 0 77 (bA 9 39) HT_.out HW_.out hHeld (hv := by rintro w' ⟨s0, s1, s2, s3, s4⟩; go_simp; with_reducible rfl) (h := ?_)
  refine tw_ 3 80 (bA 9 47) HT_.out HW_.out hHeld (hv := by rintro w' ⟨s0, s1, s2, s3, s4⟩; go_simp; with_reducible rfl) (h := ?_)
  refine one_ (i := 4) (N := some 81) (bA 9 63) rfl rfl (one_of HT_.out (by kernel_rfl)) (by decide) (fun K hK => ?_)
  refine gw_ Try.func14 #[.pointer (some ⟨gc, 0, none⟩), (.int .i64 e)] ?_
  with_reducible refine ((HC.out wd HD.out.2.2.2.1)).mono ?_
  rintro ec w4 ⟨rfl, hk4, hP⟩
  refine ⟨_, rfl, ?_⟩
  have k0 := HD.out.1.kept hk4 HN.out.1
  have k1 := HD.out.2.1.kept hk4 HN.out.2.1
  have k2 := HD.out.2.2.1.kept hk4 HN.out.2.2
  have f0 := k2.free 0
  have f1 := k2.free 1
  have f2 := k2.free 2
  have f3 := k2.free 3
  have r0 := k2.cell 0 rfl
  have r1 := k2.cell 1 rfl
  have r2 := k2.cell 2 rfl
  have r3 := k2.cell 3 rfl
  have k3 : At ((((w4.setCell ⟨w.heap.size + 1 + 1, 0, none⟩ (.slice xA xn xc)).setCell ⟨w.heap.size + 1 + 1, 1, none⟩ (.slice xE xm xce)).setCell ⟨w.heap.size + 1 + 1, 2, none⟩ (.int .i64 0)).setCell ⟨w.heap.size + 1 + 1, 3, none⟩ (.int .i64 xgw)) (w.heap.size + 1 + 1) [(.slice xA xn xc), (.slice xE xm xce), (.int .i64 0), (.int .i64 xgw)] 28 := (((k2.put rfl).put rfl).put rfl).put rfl
  have t0 := k3.cell 0 rfl
  have t1 := k3.cell 1 rfl
  have t2 := k3.cell 2 rfl
  have t3 := k3.cell 3 rfl
  refine hK.out _ _ ⟨(k0.cell 0 rfl), (k0.cell 1 rfl), (k0.cell 2 rfl), (k0.cell 3 rfl), (k1.cell 1 rfl)⟩ (fun hHeld => ?_)
  clear hK K
  refine norm_ (a' := ?_) ?_ ?_
  rotate_left
  · show Act.put _ (some 81) _ = _
    simp only [Act.put, pA, pB, pC, pD, pE]; rfl
  refine pw_ 6 83 (bA 9 127) HT_.out ?_
  refine last_ (i := 7) (N := none) (bA 9 255) rfl rfl (one_of HT_.out (by kernel_rfl)) (by decide) (fun K hK => ?_)
  refine skip_ (w1 := ?_) (by rfl) rfl ?_ ?_
  rotate_left; · go_simp; rfl
  refine hK.out _ _ ?_; clear hK K
  refine pw_ 8 7 (bA 9 511) HT_.out ?_
  refine done_ (done_of HT_.out (by kernel_rfl)) ?_
  clear hHeld HT_ HW_
  have HK := Lib.hid (And.intro hk4 hP)
  clear k0 k1 k2 k3 hk4 hP q0 o0 q1 o1 q2 o2 q3 o3
  go_wp2
  refine bodyPost_ret (v := .tuple #[.agg #[(.slice xA xn xc), (.slice xE xm xce), (.int .i64 0), (.int .i64 xgw)], .bool true]) ?_ rfl ⟨⟨xA, xn, xc, xE, xm, xce, xgw⟩, rfl, ?_⟩
  · simp only [results]; go_simp
  · exact play_end HP.out HA.out.2.2.2.1 HA.out.2.2.2.2.1 HA.out.2.2.2.2.2 HD.out.2.2.2.2 HK.out.1 HK.out.2 (((((Kpt.refl (fun x => x = w.heap.size + 1 + 1) w4).set (fun _ => rfl) _).set (fun _ => rfl) _).set (fun _ => rfl) _).set (fun _ => rfl) _) HLL.out.1 HLL.out.2

set_option maxHeartbeats 8000000 in
set_option maxRecDepth 100000 in
theorem play_ask {w : World} {gc : Nat} {lk : Int} {arcs : Int → Option (Int × Int)} {cls : Int → Option Nat} {row : Nat → List Int} {cb : Nat → Prop} {vs : List Int} {es : List (Int × Int × Int)} {G : Gp} (h : Pre w gc lk arcs cls row cb G vs es) (k e u v : Int) (n1 : ¬ k = 1) (n2 : ¬ k = 2) (n3 : ¬ k = 3) (n4 : ¬ k = 4) :
    Calls Try.prog 11 #[.pointer (some ⟨gc, 0, none⟩), G.v, .agg #[(.int .i64 k), (.int .i64 e), (.int .i64 u), (.int .i64 v)]] w fun en w' => ∃ G' : Gp, en = .returned (.tuple #[G'.v, .bool true]) ∧ PlayPost w gc lk cls row cb vs es k e u v w' G' := by
  have HP := Lib.hid h
  obtain ⟨ls, hG, hO⟩ := h.of
  have hAk := fun (W Wo : World) (Al : Option Addr) (cl : Nat) (hb : Below w.heap.size w W) (hbo : Below W.heap.size W Wo) (hrl : RdL Wo Al ls) => (h.below (hb.trans (hbo.mono hb.size))).asks (c := cl) hrl hG u v
  obtain ⟨LL, hLL⟩ : ∃ LL, ls.length = LL := ⟨_, rfl⟩
  simp only [hLL] at hAk hO
  have HO := Lib.hid hO
  have HAk := Lib.hid hAk
  clear h hO hAk hG hLL
  obtain ⟨gA, gn, gcc, gE, gm, gce, ggw⟩ := G
  unfold Gp.v gV at HO HAk ⊢
  go_enter Try.func11, Try.ntmps11
  go_upto_region 15 with (fail)
  refine gen_world (fun W => At W (w.heap.size) [(.slice gA gn gcc), (.slice gE gm gce), (.int .i64 0), (.int .i64 ggw)] 28 ∧ At W (w.heap.size + 1) [(.int .i64 k), (.int .i64 e), (.int .i64 u), (.int .i64 v)] 32 ∧ At W (w.heap.size + 1 + 1) [(.slice none 0 0), (.slice none 0 0), (.int .i64 0), (.int .i64 0)] 28 ∧ Below w.heap.size w W) ⟨((At.made (w := w) (a := #[(.slice gA gn gcc), (.slice gE gm gce), (.int .i64 0), (.int .i64 ggw)]) rfl rfl).al).al, (At.made (by simp) rfl).al, At.made (by simp) rfl, (((Below.refl _ _).alloc (Nat.le_refl _) _).alloc (by simp) _).alloc (by simp; omega) _⟩ ?_
  rintro wy ⟨hat0, hat1, hat2, hby⟩
  obtain ⟨wd, hwd⟩ : ∃ wd, wy.drew = wd := ⟨_, rfl⟩
  have HD := Lib.hid (show At wd (w.heap.size) [(.slice gA gn gcc), (.slice gE gm gce), (.int .i64 0), (.int .i64 ggw)] 28 ∧ At wd (w.heap.size + 1) [(.int .i64 k), (.int .i64 e), (.int .i64 u), (.int .i64 v)] 32 ∧ At wd (w.heap.size + 1 + 1) [(.slice none 0 0), (.slice none 0 0), (.int .i64 0), (.int .i64 0)] 28 ∧ Below w.heap.size w wd from hwd ▸ ⟨hat0.drew, hat1.drew, hat2.drew, hby.drew⟩)
  clear hat0 hat1 hat2 hby
  obtain ⟨hat0, hat1, _⟩ := HD.out
  have q0 := hat0.cell 0 rfl
  have q1 := hat0.cell 1 rfl
  have q2 := hat0.cell 2 rfl
  have q3 := hat0.cell 3 rfl
  have o0 := hat1.cell 0 rfl
  have o1 := hat1.cell 1 rfl
  have o2 := hat1.cell 2 rfl
  have o3 := hat1.cell 3 rfl
  clear hat0 hat1
  refine start_ (n := 12) (S := fun w' => w'.cell? ⟨w.heap.size, 0, none⟩ = some (.slice gA gn gcc) ∧ w'.cell? ⟨w.heap.size, 1, none⟩ = some (.slice gE gm gce) ∧ w'.cell? ⟨w.heap.size, 2, none⟩ = some (.int .i64 0) ∧ w'.cell? ⟨w.heap.size, 3, none⟩ = some (.int .i64 ggw) ∧ w'.cell? ⟨w.heap.size + 1, 2, none⟩ = some (.int .i64 u) ∧ w'.cell? ⟨w.heap.size + 1, 3, none⟩ = some (.int .i64 v)) (ds := [10]) (bA 12 0) (by kernel_rfl) rfl rfl ⟨(by rw [hwd]; exact q0), (by rw [hwd]; exact q1), (by rw [hwd]; exact q2), (by rw [hwd]; exact q3), (by rw [hwd]; exact o2), (by rw [hwd]; exact o3)⟩ (fun hHeld => ?_)
  rw [hwd] at hHeld ⊢
  refine with_tabW tb11_15.tab15 tb11_15.bits15 (fun HT_ HW_ => ?_)
  refine pw_ 1 85 (bA 12 2) HT_.out ?_
  refine pw_ 5 89 (bA 12 34) HT_.out ?_
  refine pw_ 7 91 (bA 12 162) HT_.out ?_
  refine tw_ 0 84 (bA 12 163) HT_.out HW_.out hHeld (hv := by rintro w' ⟨s0, s1, s2, s3, s4, s5⟩; go_simp; with_reducible rfl) (h := ?_)
  refine tw_ 2 86 (bA 12 167) HT_.out HW_.out hHeld (hv := by rintro w' ⟨s0, s1, s2, s3, s4, s5⟩; go_simp; with_reducible rfl) (h := ?_)
  refine tw_ 3 87 (bA 12 175) HT_.out HW_.out hHeld (hv := by rintro w' ⟨s0, s1, s2, s3, s4, s5⟩; go_simp; with_reducible rfl) (h := ?_)
  refine tw_ 6 90 (bA 12 239) HT_.out HW_.out hHeld (hv := by rintro w' ⟨s0, s1, s2, s3, s4, s5⟩; go_simp; with_reducible rfl) (h := ?_)
  refine tw_ 8 92 (bA 12 495) HT_.out HW_.out hHeld (hv := by rintro w' ⟨s0, s1, s2, s3, s4, s5⟩; go_simp; with_reducible rfl) (h := ?_)
  refine one_ (i := 4) (N := some 88) (bA 12 511) rfl rfl (one_of HT_.out (by kernel_rfl)) (by decide) (fun K hK => ?_)
  refine gw_ Try.func29 #[.agg #[(.slice gA gn gcc), (.slice gE gm gce), (.int .i64 0), (.int .i64 ggw)]] ?_
  with_reducible refine ((HO.out wd HD.out.2.2.2)).mono ?_
  rintro eo wo ⟨Al, cl, rfl, hrl, hbo⟩
  refine ⟨_, rfl, ?_⟩
  have k0 := HD.out.1.below hbo HD.out.1.lt
  have k1 := HD.out.2.1.below hbo HD.out.2.1.lt
  have HB := Lib.hid (HAk.out wd wo Al cl HD.out.2.2.2 hbo hrl)
  refine hK.out _ _ ⟨(k0.cell 0 rfl), (k0.cell 1 rfl), (k0.cell 2 rfl), (k0.cell 3 rfl), (k1.cell 2 rfl), (k1.cell 3 rfl)⟩ (fun hHeld => ?_)
  clear hK K
  refine norm_ (a' := ?_) ?_ ?_
  rotate_left
  · show Act.put _ (some 88) _ = _
    simp only [Act.put, pA, pB, pC, pD, pE]; rfl
  refine one_ (i := 9) (N := some 93) (bA 12 1023) rfl rfl (one_of HT_.out (by kernel_rfl)) (by decide) (fun K hK => ?_)
  refine gw_ Try.func28 #[.pointer (some ⟨gc, 0, none⟩), .agg #[(.slice gA gn gcc), (.slice gE gm gce), (.int .i64 0), (.int .i64 ggw)], .slice Al LL cl, (.int .i64 u), (.int .i64 v)] ?_
  with_reducible refine (HB.out).mono ?_
  rintro ea wq ⟨rfl, hbq⟩
  refine ⟨_, rfl, ?_⟩
  have l0 := k0.below hbq k0.lt
  have l1 := k1.below hbq k1.lt
  have l2 := (HD.out.2.2.1.below hbo HD.out.2.2.1.lt).below hbq (Nat.lt_of_lt_of_le HD.out.2.2.1.lt hbo.size)
  have f0 := l2.free 0
  have f1 := l2.free 1
  have f2 := l2.free 2
  have f3 := l2.free 3
  have r0 := l2.cell 0 rfl
  have r1 := l2.cell 1 rfl
  have r2 := l2.cell 2 rfl
  have r3 := l2.cell 3 rfl
  have l3 : At ((((wq.setCell ⟨w.heap.size + 1 + 1, 0, none⟩ (.slice gA gn gcc)).setCell ⟨w.heap.size + 1 + 1, 1, none⟩ (.slice gE gm gce)).setCell ⟨w.heap.size + 1 + 1, 2, none⟩ (.int .i64 0)).setCell ⟨w.heap.size + 1 + 1, 3, none⟩ (.int .i64 ggw)) (w.heap.size + 1 + 1) [(.slice gA gn gcc), (.slice gE gm gce), (.int .i64 0), (.int .i64 ggw)] 28 := (((l2.put rfl).put rfl).put rfl).put rfl
  have t0 := l3.cell 0 rfl
  have t1 := l3.cell 1 rfl
  have t2 := l3.cell 2 rfl
  have t3 := l3.cell 3 rfl
  refine hK.out _ _ ⟨(l0.cell 0 rfl), (l0.cell 1 rfl), (l0.cell 2 rfl), (l0.cell 3 rfl), (l1.cell 2 rfl), (l1.cell 3 rfl)⟩ (fun hHeld => ?_)
  clear hK K
  refine norm_ (a' := ?_) ?_ ?_
  rotate_left
  · show Act.put _ (some 93) _ = _
    simp only [Act.put, pA, pB, pC, pD, pE]; rfl
  refine last_ (i := 10) (N := none) (bA 12 2047) rfl rfl (one_of HT_.out (by kernel_rfl)) (by decide) (fun K hK => ?_)
  refine skip_ (w1 := ?_) (by rfl) rfl ?_ ?_
  rotate_left; · go_simp; rfl
  refine hK.out _ _ ?_; clear hK K
  refine pw_ 11 7 (bA 12 4095) HT_.out ?_
  refine done_ (done_of HT_.out (by kernel_rfl)) ?_
  clear hHeld HT_ HW_
  have HK := Lib.hid ((HD.out.2.2.2.trans (hbo.mono HD.out.2.2.2.size)).trans (hbq.mono (Nat.le_trans HD.out.2.2.2.size hbo.size)))
  clear k0 k1 l0 l1 l2 l3 hbo hbq hrl q0 o0 q1 o1 q2 o2 q3 o3
  go_wp2
  refine bodyPost_ret (v := .tuple #[.agg #[(.slice gA gn gcc), (.slice gE gm gce), (.int .i64 0), (.int .i64 ggw)], .bool true]) ?_ rfl ⟨⟨gA, gn, gcc, gE, gm, gce, ggw⟩, rfl, ?_⟩
  · simp only [results]; go_simp
  · exact play_stay HP.out ((((HK.out.setCell (by simp; omega) _).setCell (by simp; omega) _).setCell (by simp; omega) _).setCell (by simp; omega) _)

theorem Pre.play {w : World} {gc : Nat} {lk : Int} {arcs : Int → Option (Int × Int)} {cls : Int → Option Nat} {row : Nat → List Int} {cb : Nat → Prop} {vs : List Int} {es : List (Int × Int × Int)} {G : Gp} (h : Pre w gc lk arcs cls row cb G vs es) (k e u v : Int) :
    Calls Try.prog 11 #[.pointer (some ⟨gc, 0, none⟩), G.v, .agg #[.int .i64 k, .int .i64 e, .int .i64 u, .int .i64 v]] w fun en w' => ∃ G' : Gp, en = .returned (.tuple #[G'.v, .bool true]) ∧ PlayPost w gc lk cls row cb vs es k e u v w' G' := by
  by_cases n1 : k = 1
  · subst n1
    obtain ⟨b, vs', hR, hC, hl⟩ := h.addv 1 e u v
    exact play_addv h e u v hR hC hl (by omega)
  by_cases n2 : k = 2
  · subst n2
    obtain ⟨b, vs', hR, hC, hl⟩ := h.dropv 2 e u v
    exact play_dropv h e u v hR hC hl (by omega)
  by_cases n3 : k = 3
  · subst n3
    obtain ⟨b, vs', hR, hC, hl⟩ := h.adda e u v
    exact play_adda h e u v hR hC (by omega) hl
  by_cases n4 : k = 4
  · subst n4
    obtain ⟨b, vs', hR, hC, hl⟩ := h.dela e u v
    exact play_dela h e u v hR hC (by omega) hl
  exact play_ask h k e u v n1 n2 n3 n4
end Go.Proofs.Ythomnpgpbhpojaa.Cd
