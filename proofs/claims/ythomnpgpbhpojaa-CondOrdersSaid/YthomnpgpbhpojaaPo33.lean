/- The reference's components of the graph; asks. -/
import Derived.Test.YthomnpgpbhpojaaPo5
import Derived.Test.YthomnpgpbhpojaaPo32
namespace Go.Proofs.Ythomnpgpbhpojaa.Cd
open Go Go.RowKit Go.MapKept Go.Proofs.Ythomnpgpbhpojaa.Mem Go.Proofs.Ythomnpgpbhpojaa.Sl Go.Proofs.Ythomnpgpbhpojaa.Scc Go.Proofs.Ythomnpgpbhpojaa.Tj Go.Proofs.Ythomnpgpbhpojaa.Lw Go.Proofs.Ythomnpgpbhpojaa.Pt Go.Proofs.YthomnpgpbhpojaaW.PrintWords Go.Proofs.YthomnpgpbhpojaaW.PrintLast
attribute [local go_sem ↓] Go.wp_at_zero Go.wp_at_succ
set_option linter.unusedSimpArgs false
set_option linter.unusedVariables false

section
variable {w w' W W' : World} {gc : Nat} {lk : Int} {arcs : Int → Option (Int × Int)} {cls : Int → Option Nat} {row : Nat → List Int} {cb q q' p : Nat → Prop} {vs : List Int} {es : List (Int × Int × Int)} {G : Gp}
theorem RdE.of_g {A : Option Addr} (h : RdG w A es) : RdE w A (es.map (·.2)) := fun j u v hx => by
  rw [List.getElem?_map] at hx
  cases he : es[j]? with
  | none => rw [he] at hx; cases hx
  | some p =>
    rw [he] at hx
    obtain ⟨e, a, b⟩ := p
    cases hx
    obtain ⟨g, h1, _, h3, h4⟩ := h j e u v he
    exact ⟨g, h1, h3, h4⟩
theorem Pre.of (h : Pre w gc lk arcs cls row cb G vs es) : ∃ ls : List (List Int), Grp vs (Ra arcs) ls ∧ ∀ W, Below w.heap.size w W → Calls Try.prog 29 #[G.v] W fun e W' => ∃ A' c', e = .returned (.slice A' ls.length c') ∧ RdL W' A' ls ∧ Below W.heap.size W W' := by
  have hlv := h.lv
  have hle := h.le
  obtain ⟨comp, m, hc, _⟩ := (ofS_ok (l := vs) (sl := vs) (arcs := es.map (·.2)) rfl (h.s.up.imp fun h => Int.le_of_lt h) (by omega) (k := vs.length + (es.map (·.2)).length + 1) (by omega)).2.2 (nodup_of_up h.s.up) h.s.good
  have hG := grp_of h.s.up h.s.good hc
  rw [h.s.ra] at hG
  refine ⟨_, hG, fun W hb => ?_⟩
  have hg := h.gr hb
  have hlen : (ofL comp vs m).length = m := by unfold ofL; simp
  have := ofR_calls (gw := G.gw) W G.A G.E G.c G.ce m vs (es.map (·.2)) comp (RdI.of_own hg.rv).1 (RdE.of_g (RdG.of_own hg.re)) h.s.up h.s.good hc (by omega) (by rw [List.length_map]; omega)
  rw [hg.nv, List.length_map, hg.ne] at this
  rw [hlen]
  exact this
end
def tb28_7.T7 : Bool × List (List Nat × List Nat) := (true, [([], []), ([], []), ([], []), ([1, 2], [1, 2]), ([3], [3]), ([4], [4]), ([5], [5]), ([0, 6], [0, 6]), ([7], [7]), ([8], [8]), ([8], [8]), ([9, 10, 8, 8], [8, 9, 10]), ([8], [8]), ([8], [8]), ([12, 13, 8], [8, 12, 13]), ([14, 8], [8, 14]), ([11, 15, 11, 8], [8, 11, 15]), ([8, 16], [8, 16]), ([17, 16, 0, 1, 2, 3, 4, 5, 6, 7, 8, 9, 10, 11, 12, 13, 14, 15, 16, 17], [17])])
def tb28_7.B7 : List Nat := [0, 0, 0, 6, 14, 30, 62, 127, 255, 511, 511, 2047, 511, 511, 12799, 29183, 65535, 131071, 262143]
theorem tb28_7.tab7 : rtab .any (opsOf Try.f28 7) = tb28_7.T7 := by kernel_rfl
theorem tb28_7.bits7 : waitsOk tb28_7.T7.2 tb28_7.B7 = true := by kernel_rfl
set_option maxHeartbeats 8000000 in
set_option maxRecDepth 100000 in
theorem asks_none {w : World} {gc : Nat} {lk : Int} {arcs : Int → Option (Int × Int)} {cls : Int → Option Nat} {row : Nat → List Int} {cb : Nat → Prop} {vs : List Int} {es : List (Int × Int × Int)} {G : Gp} (h : Pre w gc lk arcs cls row cb G vs es) {A : Option Addr} {c : Nat} {ls : List (List Int)} (hl : RdL w A ls) (hG : Grp vs (Ra arcs) ls) (u v : Int) (hu : cls u = none) :
    Calls Try.prog 28 #[.pointer (some ⟨gc, 0, none⟩), G.v, .slice A ls.length c, .int .i64 u, .int .i64 v] w fun e w' => e = .returned (.bool true) ∧ Below w.heap.size w w' := by
  have hrl : ∀ v b, cls v = some b → (row b).length ≤ 500000 := fun v b hv => Nat.le_trans (h.rowle v b hv) (by omega)
  have hlv := h.lv
  have hll : ∀ r ∈ ls, r.length ≤ 1000000 := fun r hr => by have := hG.row hr; omega
  have hln : ls.length ≤ vs.length := hG.len
  obtain ⟨ga, go, gi, gp, gm, ob, ib, val, tg, pb, hc⟩ := h.c
  have hcu := h.s.ask_none hG hu
  have hsv : sameV cls u v = false := by unfold sameV; rw [hu]; simp
  have hhv : headV cls row u = 0 := by unfold headV; rw [hu]
  have hmm : mems cls row u = [] := by unfold mems; rw [hu]
  have hH := fun (W : World) (hb : Below w.heap.size w W) => cHead (hc.below hb) u hrl
  have hM := fun (W : World) (hb : Below w.heap.size w W) => cMembers (hc.below hb) u hrl
  have hSm := fun (W : World) (hb : Below w.heap.size w W) => cSame (hc.below hb) u v
  have hC := fun (W : World) (x : Int) (hb : Below w.heap.size w W) => comp_calls W A c ls x (RdL.below hl hb) (by omega) hll
  simp only [hhv, hu, Option.isSome_none] at hH
  simp only [hmm] at hM
  simp only [hsv] at hSm
  have hC1 := fun (W : World) (hb : Below w.heap.size w W) => hC W u hb
  have hC2 := fun (W : World) (hb : Below w.heap.size w W) => hC W v hb
  obtain ⟨iv, hiv⟩ : ∃ iv, compI ls v = iv := ⟨_, rfl⟩
  simp only [hcu] at hC1
  simp only [hiv] at hC2
  have HH := Lib.hid hH
  have HM := Lib.hid hM
  have HS := Lib.hid hSm
  have HC1 := Lib.hid hC1
  have HC2 := Lib.hid hC2
  obtain ⟨L, hL⟩ : ∃ L, ls.length = L := ⟨_, rfl⟩
  rw [hL] at HC1 HC2 ⊢
  clear hH hM hSm hC hC1 hC2 hcu hsv hhv hmm hc hrl hll hl hG h hu hiv hlv hln hL
  obtain ⟨gA, gn, gcc, gE, gm', gce, ggw⟩ := G
  unfold Gp.v gV
  go_enter Try.func28, Try.ntmps28
  go_wp2_with fail
  have hb1 : Below w.heap.size w (w.alloc (.cells #[.slice gA gn gcc, .slice gE gm' gce, .int .i64 0, .int .i64 ggw] 28)) := (Below.refl _ _).alloc (Nat.le_refl _) _
  refine (HH.out _ hb1).mono ?_
  clear HH
  rintro e w2 ⟨rfl, rfl⟩
  go_wp2_with fail
  refine (HC1.out _ hb1).mono ?_
  clear HC1
  rintro e w3 ⟨rfl, rfl⟩
  go_wp2_with fail
  refine (HC2.out _ hb1).mono ?_
  clear HC2
  rintro e w4 ⟨rfl, rfl⟩
  go_wp2_with fail
  refine (HS.out _ hb1).mono ?_
  clear HS
  rintro e w5 ⟨rfl, hb5⟩
  have hb6 := hb1.trans (hb5.mono hb1.size)
  have HB := Lib.hid hb6
  have HMx := Lib.hid (HM.out _ hb6)
  clear hb1 hb5 hb6 HM
  go_wp2_with fail
  refine HMx.out.mono ?_
  clear HMx
  rintro e w6 ⟨um, rfl, ho, hb7⟩
  obtain ⟨Am, cm, rfl⟩ := Lw.own_slice ho
  have HZ := Lib.hid (HB.out.trans (hb7.mono HB.out.size))
  clear ho hb7 HB
  go_wp2
  go_ret
  exact ⟨rfl, HZ.out⟩
set_option maxHeartbeats 8000000 in
set_option maxRecDepth 100000 in
theorem asks_eq {w : World} {gc : Nat} {lk : Int} {arcs : Int → Option (Int × Int)} {cls : Int → Option Nat} {row : Nat → List Int} {cb : Nat → Prop} {vs : List Int} {es : List (Int × Int × Int)} {G : Gp} (h : Pre w gc lk arcs cls row cb G vs es) {A : Option Addr} {c : Nat} {ls : List (List Int)} (hl : RdL w A ls) (hG : Grp vs (Ra arcs) ls) (u v : Int) {b : Nat} (hu : cls u = some b) (hsv : sameV cls u v = true) :
    Calls Try.prog 28 #[.pointer (some ⟨gc, 0, none⟩), G.v, .slice A ls.length c, .int .i64 u, .int .i64 v] w fun e w' => e = .returned (.bool true) ∧ Below w.heap.size w w' := by
  have hrl : ∀ v b, cls v = some b → (row b).length ≤ 500000 := fun v b hv => Nat.le_trans (h.rowle v b hv) (by omega)
  have hlv := h.lv
  have hll : ∀ r ∈ ls, r.length ≤ 1000000 := fun r hr => by have := hG.row hr; omega
  have hln : ls.length ≤ vs.length := hG.len
  obtain ⟨i, l, hil, hcu, hls, ⟨r, hr⟩, hcv⟩ := h.s.ask_some h.c.rowOk hG hu
  obtain ⟨ga, go, gi, gp, gm, ob, ib, val, tg, pb, hc⟩ := h.c
  have hhv : headV cls row u = Lib.minOf (row b) := by unfold headV; rw [hu]
  have hmm : mems cls row u = l := by unfold mems; rw [hu]; exact hls.symm
  have hlen : l.length ≤ 1000000 := hll l (List.mem_of_getElem? hil)
  have hi : i < ls.length := (List.getElem?_eq_some_iff.1 hil).1
  obtain ⟨ba, B, cc, rfl, c0, hrd⟩ := hl i l hil
  obtain ⟨bb, rfl, c1⟩ := hrd 0 (Lib.minOf (row b)) (by rw [hr]; rfl)
  have hH := fun (W : World) (hb : Below w.heap.size w W) => cHead (hc.below hb) u hrl
  have hM := fun (W : World) (hb : Below w.heap.size w W) => cMembers (hc.below hb) u hrl
  have hSm := fun (W : World) (hb : Below w.heap.size w W) => cSame (hc.below hb) u v
  have hC := fun (W : World) (x : Int) (hb : Below w.heap.size w W) => comp_calls W (some ⟨ba, 0, none⟩) c ls x (RdL.below hl hb) (by omega) hll
  have hQ := fun (Wa Wm : World) (um : Value) (hb : Below w.heap.size w Wa) (ho : Wm.ownsRow Wa.heap.size 3 1 um l.length (ints l)) (hbm : Below Wa.heap.size Wa Wm) => (show Calls Try.prog 15 #[um, .slice (some ⟨bb, 0, none⟩) l.length cc] Wm fun e W' => e = .returned (.bool true) ∧ Below Wm.heap.size Wm W' from by
    obtain ⟨Am, cm, rfl⟩ := Lw.own_slice ho
    refine (sameInts_calls Wm Am (some ⟨bb, 0, none⟩) cm cc l l (RdI.of_own ho).1 ((hrd.below hb).below hbm) hlen).mono fun e W' ⟨he, q, hw⟩ => ⟨by rw [he]; simp, hw ▸ Below.drN (Below.refl _ _) q⟩)
  simp only [hhv, hu, Option.isSome_some] at hH
  simp only [hmm] at hM
  simp only [hsv] at hSm
  have hC1 := fun (W : World) (hb : Below w.heap.size w W) => hC W u hb
  have hC2 := fun (W : World) (hb : Below w.heap.size w W) => hC W v hb
  obtain ⟨iv, hiv⟩ : ∃ iv, compI ls v = iv := ⟨_, rfl⟩
  simp only [hcu] at hC1
  simp only [hiv] at hC2
  have hij : iv = (i : Int) := by
    have hcv := hcv v
    rw [hcu, hiv] at hcv
    unfold sameV at hsv
    exact (hcv.2 (of_decide_eq_true hsv).2).symm
  subst hij
  have HH := Lib.hid hH
  have HM := Lib.hid hM
  have HS := Lib.hid hSm
  have HC1 := Lib.hid hC1
  have HC2 := Lib.hid hC2
  have HQ0 := Lib.hid hQ
  have HCL := Lib.hid (And.intro c0 c1)
  obtain ⟨L, hL⟩ : ∃ L, ls.length = L := ⟨_, rfl⟩
  obtain ⟨ll, hll2⟩ : ∃ ll, l.length = ll := ⟨_, rfl⟩
  obtain ⟨hd, hhd⟩ : ∃ hd, Lib.minOf (row b) = hd := ⟨_, rfl⟩
  have hpos : 0 < ll := by rw [← hll2, hr, List.length_cons]; omega
  rw [hL] at HC1 HC2 hi hln ⊢
  rw [hll2] at HCL HQ0 HM hlen
  rw [hhd] at HCL HH
  have i0 : (0 : Int) ≤ (i : Int) := by omega
  have i1 : (i : Int) < (L : Int) := by omega
  have i2 : (L : Int) ≤ 1000 := by omega
  have i3 : (ll : Int) ≤ 1000000 := by omega
  clear hH hM hSm hC hC1 hC2 hcu hsv hhv hmm hc hrl hll hl hG h hu hiv hlv hln hL hQ hrd c0 c1 hcv hls hil hr hll2 hhd hi hlen
  obtain ⟨gA, gn, gcc, gE, gm', gce, ggw⟩ := G
  unfold Gp.v gV
  go_enter Try.func28, Try.ntmps28
  go_wp2_with fail
  have hb1 : Below w.heap.size w (w.alloc (.cells #[.slice gA gn gcc, .slice gE gm' gce, .int .i64 0, .int .i64 ggw] 28)) := (Below.refl _ _).alloc (Nat.le_refl _) _
  refine (HH.out _ hb1).mono ?_
  clear HH
  rintro e w2 ⟨rfl, rfl⟩
  go_wp2_with fail
  refine (HC1.out _ hb1).mono ?_
  clear HC1
  rintro e w3 ⟨rfl, rfl⟩
  go_wp2_with fail
  refine (HC2.out _ hb1).mono ?_
  clear HC2
  rintro e w4 ⟨rfl, rfl⟩
  go_wp2_with fail
  refine (HS.out _ hb1).mono ?_
  clear HS
  rintro e w4 ⟨rfl, hb5⟩
  have hb4 := hb1.trans (hb5.mono hb1.size)
  have s0 := keep_at hb4 HCL.out.1
  have s1 := keep_at hb4 HCL.out.2
  have HB := Lib.hid hb4
  clear hb1 hb5 hb4 HCL
  go_upto_region 7 with (fail)
  have hb4 := HB.out
  refine start_ (n := 19) (S := fun w' => w'.cell? ⟨ba, i, none⟩ = some (.slice (some ⟨bb, 0, none⟩) ll cc) ∧ w'.cell? ⟨bb, 0, none⟩ = some (.int .i64 hd)) (ds := [16]) (bA 19 0) (by kernel_rfl) rfl rfl ⟨s0, s1⟩ (fun hHeld => ?_)
  refine with_tabW tb28_7.tab7 tb28_7.bits7 (fun HT_ HW_ => ?_)
  refine pw_ 0 56 (bA 19 1) HT_.out ?_
  refine pw_ 1 57 (bA 19 3) HT_.out ?_
  refine pw_ 2 58 (bA 19 7) HT_.out ?_
  refine pw_ 3 59 (bA 19 15) HT_.out ?_
  refine tw_ 4 60 (bA 19 31) HT_.out HW_.out hHeld (hv := by rintro w' ⟨s0, s1⟩; go_simp; with_reducible rfl) (h := ?_)
  refine pw_ 5 61 (bA 19 63) HT_.out ?_
  refine tw_ 6 62 (bA 19 127) HT_.out HW_.out hHeld (hv := by rintro w' ⟨s0, s1⟩; go_simp; with_reducible rfl) (h := ?_)
  refine pw_ 7 63 (bA 19 255) HT_.out ?_
  refine pw_ 8 64 (bA 19 511) HT_.out ?_
  refine pw_ 9 65 (bA 19 1023) HT_.out ?_
  refine pw_ 10 66 (bA 19 2047) HT_.out ?_
  refine pw_ 12 68 (bA 19 6143) HT_.out ?_
  refine pw_ 13 69 (bA 19 14335) HT_.out ?_
  refine pw_ 14 70 (bA 19 30719) HT_.out ?_
  refine tw_ 15 71 (bA 19 63487) HT_.out HW_.out hHeld (hv := by rintro w' ⟨s0, s1⟩; go_simp; with_reducible rfl) (h := ?_)
  refine one_ (i := 11) (N := some 67) (bA 19 65535) rfl rfl (one_of HT_.out (by kernel_rfl)) (by decide) (fun K hK => ?_)
  refine gw_ Try.func9 #[.pointer (some ⟨gc, 0, none⟩), .int .i64 u] ?_
  with_reducible refine ((HM.out _ (hb4.drew))).mono ?_
  rintro em wm ⟨um, rfl, hom, hbm⟩
  refine ⟨_, rfl, ?_⟩
  have HQ := Lib.hid (HQ0.out _ _ _ hb4.drew hom hbm)
  refine hK.out _ _ ⟨(keep_at hbm (show (w4.drew).cell? _ = _ from s0)), (keep_at hbm (show (w4.drew).cell? _ = _ from s1))⟩ (fun hHeld => ?_)
  clear hK K
  refine norm_ (a' := ?_) ?_ ?_
  rotate_left
  · show Act.put _ (some 67) _ = _
    simp only [Act.put, pA, pB, pC, pD, pE]; rfl
  refine last_ (i := 16) (N := some 72) (bA 19 131071) rfl rfl (one_of HT_.out (by kernel_rfl)) (by decide) (fun K hK => ?_)
  refine gw_ Try.func15 #[um, .slice (some ⟨bb, 0, none⟩) ll cc] ?_
  with_reducible refine (HQ.out).mono ?_
  rintro eq wq ⟨rfl, hbq⟩
  refine ⟨_, rfl, ?_⟩
  refine hK.out _ _ ?_; clear hK K
  refine norm_ (a' := ?_) ?_ ?_
  rotate_left
  · show Act.put _ (some 72) _ = _
    simp only [Act.put, pA, pB, pC, pD, pE]; rfl
  refine pw_ 17 73 (bA 19 262143) HT_.out ?_
  refine pw_ 18 10 (bA 19 524287) HT_.out ?_
  refine done_ (done_of HT_.out (by kernel_rfl)) ?_
  clear hHeld HT_ HW_
  have HZ := Lib.hid ((hb4.drew.trans (hbm.mono hb4.size)).trans (hbq.mono (Nat.le_trans hb4.size hbm.size)))
  clear hb4 hbm hbq hom HB HM HQ HQ0 s0 s1
  go_wp2
  go_ret
  exact ⟨rfl, HZ.out⟩
set_option maxHeartbeats 8000000 in
set_option maxRecDepth 100000 in
theorem asks_ne {w : World} {gc : Nat} {lk : Int} {arcs : Int → Option (Int × Int)} {cls : Int → Option Nat} {row : Nat → List Int} {cb : Nat → Prop} {vs : List Int} {es : List (Int × Int × Int)} {G : Gp} (h : Pre w gc lk arcs cls row cb G vs es) {A : Option Addr} {c : Nat} {ls : List (List Int)} (hl : RdL w A ls) (hG : Grp vs (Ra arcs) ls) (u v : Int) {b : Nat} (hu : cls u = some b) (hsv : sameV cls u v = false) :
    Calls Try.prog 28 #[.pointer (some ⟨gc, 0, none⟩), G.v, .slice A ls.length c, .int .i64 u, .int .i64 v] w fun e w' => e = .returned (.bool true) ∧ Below w.heap.size w w' := by
  have hrl : ∀ v b, cls v = some b → (row b).length ≤ 500000 := fun v b hv => Nat.le_trans (h.rowle v b hv) (by omega)
  have hlv := h.lv
  have hll : ∀ r ∈ ls, r.length ≤ 1000000 := fun r hr => by have := hG.row hr; omega
  have hln : ls.length ≤ vs.length := hG.len
  obtain ⟨i, l, hil, hcu, hls, ⟨r, hr⟩, hcv⟩ := h.s.ask_some h.c.rowOk hG hu
  obtain ⟨ga, go, gi, gp, gm, ob, ib, val, tg, pb, hc⟩ := h.c
  have hhv : headV cls row u = Lib.minOf (row b) := by unfold headV; rw [hu]
  have hmm : mems cls row u = l := by unfold mems; rw [hu]; exact hls.symm
  have hlen : l.length ≤ 1000000 := hll l (List.mem_of_getElem? hil)
  have hi : i < ls.length := (List.getElem?_eq_some_iff.1 hil).1
  obtain ⟨ba, B, cc, rfl, c0, hrd⟩ := hl i l hil
  obtain ⟨bb, rfl, c1⟩ := hrd 0 (Lib.minOf (row b)) (by rw [hr]; rfl)
  have hH := fun (W : World) (hb : Below w.heap.size w W) => cHead (hc.below hb) u hrl
  have hM := fun (W : World) (hb : Below w.heap.size w W) => cMembers (hc.below hb) u hrl
  have hSm := fun (W : World) (hb : Below w.heap.size w W) => cSame (hc.below hb) u v
  have hC := fun (W : World) (x : Int) (hb : Below w.heap.size w W) => comp_calls W (some ⟨ba, 0, none⟩) c ls x (RdL.below hl hb) (by omega) hll
  have hQ := fun (Wa Wm : World) (um : Value) (hb : Below w.heap.size w Wa) (ho : Wm.ownsRow Wa.heap.size 3 1 um l.length (ints l)) (hbm : Below Wa.heap.size Wa Wm) => (show Calls Try.prog 15 #[um, .slice (some ⟨bb, 0, none⟩) l.length cc] Wm fun e W' => e = .returned (.bool true) ∧ Below Wm.heap.size Wm W' from by
    obtain ⟨Am, cm, rfl⟩ := Lw.own_slice ho
    refine (sameInts_calls Wm Am (some ⟨bb, 0, none⟩) cm cc l l (RdI.of_own ho).1 ((hrd.below hb).below hbm) hlen).mono fun e W' ⟨he, q, hw⟩ => ⟨by rw [he]; simp, hw ▸ Below.drN (Below.refl _ _) q⟩)
  simp only [hhv, hu, Option.isSome_some] at hH
  simp only [hmm] at hM
  simp only [hsv] at hSm
  have hC1 := fun (W : World) (hb : Below w.heap.size w W) => hC W u hb
  have hC2 := fun (W : World) (hb : Below w.heap.size w W) => hC W v hb
  obtain ⟨iv, hiv⟩ : ∃ iv, compI ls v = iv := ⟨_, rfl⟩
  simp only [hcu] at hC1
  simp only [hiv] at hC2
  have hij : ¬ ((i : Int) = iv) := by
    have hcv := hcv v
    rw [hcu, hiv] at hcv
    unfold sameV at hsv
    exact fun e => absurd (And.intro (by rw [hu]; simp) (hcv.1 e)) (of_decide_eq_false hsv)
  skip
  have HH := Lib.hid hH
  have HM := Lib.hid hM
  have HS := Lib.hid hSm
  have HC1 := Lib.hid hC1
  have HC2 := Lib.hid hC2
  have HQ0 := Lib.hid hQ
  have HCL := Lib.hid (And.intro c0 c1)
  obtain ⟨L, hL⟩ : ∃ L, ls.length = L := ⟨_, rfl⟩
  obtain ⟨ll, hll2⟩ : ∃ ll, l.length = ll := ⟨_, rfl⟩
  obtain ⟨hd, hhd⟩ : ∃ hd, Lib.minOf (row b) = hd := ⟨_, rfl⟩
  have hpos : 0 < ll := by rw [← hll2, hr, List.length_cons]; omega
  rw [hL] at HC1 HC2 hi hln ⊢
  rw [hll2] at HCL HQ0 HM hlen
  rw [hhd] at HCL HH
  have i0 : (0 : Int) ≤ (i : Int) := by omega
  have i1 : (i : Int) < (L : Int) := by omega
  have i2 : (L : Int) ≤ 1000 := by omega
  have i3 : (ll : Int) ≤ 1000000 := by omega
  clear hH hM hSm hC hC1 hC2 hcu hsv hhv hmm hc hrl hll hl hG h hu hiv hlv hln hL hQ hrd c0 c1 hcv hls hil hr hll2 hhd hi hlen
  obtain ⟨gA, gn, gcc, gE, gm', gce, ggw⟩ := G
  unfold Gp.v gV
  go_enter Try.func28, Try.ntmps28
  go_wp2_with fail
  have hb1 : Below w.heap.size w (w.alloc (.cells #[.slice gA gn gcc, .slice gE gm' gce, .int .i64 0, .int .i64 ggw] 28)) := (Below.refl _ _).alloc (Nat.le_refl _) _
  refine (HH.out _ hb1).mono ?_
  clear HH
  rintro e w2 ⟨rfl, rfl⟩
  go_wp2_with fail
  refine (HC1.out _ hb1).mono ?_
  clear HC1
  rintro e w3 ⟨rfl, rfl⟩
  go_wp2_with fail
  refine (HC2.out _ hb1).mono ?_
  clear HC2
  rintro e w4 ⟨rfl, rfl⟩
  go_wp2_with fail
  refine (HS.out _ hb1).mono ?_
  clear HS
  rintro e w4 ⟨rfl, hb5⟩
  have hb4 := hb1.trans (hb5.mono hb1.size)
  have s0 := keep_at hb4 HCL.out.1
  have s1 := keep_at hb4 HCL.out.2
  have HB := Lib.hid hb4
  clear hb1 hb5 hb4 HCL
  go_upto_region 7 with (fail)
  have hb4 := HB.out
  refine start_ (n := 19) (S := fun w' => w'.cell? ⟨ba, i, none⟩ = some (.slice (some ⟨bb, 0, none⟩) ll cc) ∧ w'.cell? ⟨bb, 0, none⟩ = some (.int .i64 hd)) (ds := [16]) (bA 19 0) (by kernel_rfl) rfl rfl ⟨s0, s1⟩ (fun hHeld => ?_)
  refine with_tabW tb28_7.tab7 tb28_7.bits7 (fun HT_ HW_ => ?_)
  refine pw_ 0 56 (bA 19 1) HT_.out ?_
  refine pw_ 1 57 (bA 19 3) HT_.out ?_
  refine pw_ 2 58 (bA 19 7) HT_.out ?_
  refine pw_ 3 59 (bA 19 15) HT_.out ?_
  refine tw_ 4 60 (bA 19 31) HT_.out HW_.out hHeld (hv := by rintro w' ⟨s0, s1⟩; go_simp; with_reducible rfl) (h := ?_)
  refine pw_ 5 61 (bA 19 63) HT_.out ?_
  refine tw_ 6 62 (bA 19 127) HT_.out HW_.out hHeld (hv := by rintro w' ⟨s0, s1⟩; go_simp; with_reducible rfl) (h := ?_)
  refine pw_ 7 63 (bA 19 255) HT_.out ?_
  refine pw_ 8 64 (bA 19 511) HT_.out ?_
  refine pw_ 9 65 (bA 19 1023) HT_.out ?_
  refine pw_ 10 66 (bA 19 2047) HT_.out ?_
  refine pw_ 12 68 (bA 19 6143) HT_.out ?_
  refine pw_ 13 69 (bA 19 14335) HT_.out ?_
  refine pw_ 14 70 (bA 19 30719) HT_.out ?_
  refine tw_ 15 71 (bA 19 63487) HT_.out HW_.out hHeld (hv := by rintro w' ⟨s0, s1⟩; go_simp; with_reducible rfl) (h := ?_)
  refine one_ (i := 11) (N := some 67) (bA 19 65535) rfl rfl (one_of HT_.out (by kernel_rfl)) (by decide) (fun K hK => ?_)
  refine gw_ Try.func9 #[.pointer (some ⟨gc, 0, none⟩), .int .i64 u] ?_
  with_reducible refine ((HM.out _ (hb4.drew))).mono ?_
  rintro em wm ⟨um, rfl, hom, hbm⟩
  refine ⟨_, rfl, ?_⟩
  have HQ := Lib.hid (HQ0.out _ _ _ hb4.drew hom hbm)
  refine hK.out _ _ ⟨(keep_at hbm (show (w4.drew).cell? _ = _ from s0)), (keep_at hbm (show (w4.drew).cell? _ = _ from s1))⟩ (fun hHeld => ?_)
  clear hK K
  refine norm_ (a' := ?_) ?_ ?_
  rotate_left
  · show Act.put _ (some 67) _ = _
    simp only [Act.put, pA, pB, pC, pD, pE]; rfl
  refine last_ (i := 16) (N := some 72) (bA 19 131071) rfl rfl (one_of HT_.out (by kernel_rfl)) (by decide) (fun K hK => ?_)
  refine gw_ Try.func15 #[um, .slice (some ⟨bb, 0, none⟩) ll cc] ?_
  with_reducible refine (HQ.out).mono ?_
  rintro eq wq ⟨rfl, hbq⟩
  refine ⟨_, rfl, ?_⟩
  refine hK.out _ _ ?_; clear hK K
  refine norm_ (a' := ?_) ?_ ?_
  rotate_left
  · show Act.put _ (some 72) _ = _
    simp only [Act.put, pA, pB, pC, pD, pE]; rfl
  refine pw_ 17 73 (bA 19 262143) HT_.out ?_
  refine pw_ 18 10 (bA 19 524287) HT_.out ?_
  refine done_ (done_of HT_.out (by kernel_rfl)) ?_
  clear hHeld HT_ HW_
  have HZ := Lib.hid ((hb4.drew.trans (hbm.mono hb4.size)).trans (hbq.mono (Nat.le_trans hb4.size hbm.size)))
  clear hb4 hbm hbq hom HB HM HQ HQ0 s0 s1
  go_wp2
  go_ret
  exact ⟨rfl, HZ.out⟩
theorem Pre.asks {w : World} {gc : Nat} {lk : Int} {arcs : Int → Option (Int × Int)} {cls : Int → Option Nat} {row : Nat → List Int} {cb : Nat → Prop} {vs : List Int} {es : List (Int × Int × Int)} {G : Gp} (h : Pre w gc lk arcs cls row cb G vs es) {A : Option Addr} {c : Nat} {ls : List (List Int)} (hl : RdL w A ls) (hG : Grp vs (Ra arcs) ls) (u v : Int) :
    Calls Try.prog 28 #[.pointer (some ⟨gc, 0, none⟩), G.v, .slice A ls.length c, .int .i64 u, .int .i64 v] w fun e w' => e = .returned (.bool true) ∧ Below w.heap.size w w' := by
  cases hu : cls u with
  | none => exact asks_none h hl hG u v hu
  | some b =>
    cases hs : sameV cls u v with
    | true => exact asks_eq h hl hG u v hu hs
    | false => exact asks_ne h hl hG u v hu hs
end Go.Proofs.Ythomnpgpbhpojaa.Cd
