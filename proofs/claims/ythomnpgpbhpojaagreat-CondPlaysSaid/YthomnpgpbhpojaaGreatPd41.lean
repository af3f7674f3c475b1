/- CondPlays. -/
import Derived.Test.YthomnpgpbhpojaaGreatPd5
import Derived.Test.YthomnpgpbhpojaaGreatPd39
import Derived.Test.YthomnpgpbhpojaaGreatPd40
namespace Go.Proofs.YthomnpgpbhpojaaGreat.Cd
open Go Go.RowKit Go.MapKept Go.Proofs.YthomnpgpbhpojaaGreat.Mem Go.Proofs.YthomnpgpbhpojaaGreat.Sl Go.Proofs.YthomnpgpbhpojaaGreat.Scc Go.Proofs.YthomnpgpbhpojaaGreat.Tj Go.Proofs.YthomnpgpbhpojaaGreat.Lw Go.Proofs.YthomnpgpbhpojaaGreat.Pt Go.Proofs.YthomnpgpbhpojaaGreatW.PrintWords Go.Proofs.YthomnpgpbhpojaaGreatW.PrintLast
attribute [local go_sem ↓] Go.wp_at_zero Go.wp_at_succ
set_option linter.unusedSimpArgs false
set_option linter.unusedVariables false

def tb3_8.T8 : Bool × List (List Nat × List Nat) := (true, [([], []), ([], []), ([], []), ([], []), ([2, 3], [2, 3]), ([4], [4]), ([0, 1, 5], [0, 1, 5]), ([6], [6]), ([7], [7]), ([7], [7]), ([8, 6, 0, 1, 2, 3, 4, 5, 6, 7, 8], [8]), ([9, 10, 0, 1, 2, 3, 4, 5, 6, 7, 8, 9, 10], [9])])
def tb3_8.B8 : List Nat := [0, 0, 0, 0, 12, 28, 63, 127, 255, 255, 511, 2047]
theorem tb3_8.tab8 : rtab .any (opsOf Tryz.f3 8) = tb3_8.T8 := by kernel_rfl
theorem tb3_8.bits8 : waitsOk tb3_8.T8.2 tb3_8.B8 = true := by kernel_rfl
set_option maxHeartbeats 8000000 in
set_option maxRecDepth 100000 in
theorem condPlays_calls (w : World) (A : Option Addr) (c : Nat) (s : List (Int × Int × Int × Int)) (hrd : RdO w A s) :
    Calls Tryz.prog 3 #[.slice A s.length c] w fun e w' => e = .returned (.bool true) ∧ Below w.heap.size w w' := by
  obtain ⟨n, hn⟩ : ∃ n, s.length = n := ⟨_, rfl⟩
  rw [hn]
  have HS := Lib.hid (And.intro hn hrd)
  have HN := Lib.hid (aw_new w)
  clear hrd hn
  go_enter Tryz.func3, Tryz.ntmps3
  go_wp2_with fail
  refine HN.out.mono ?_
  clear HN
  rintro en w1 ⟨gc, rfl, hA, hC⟩
  obtain ⟨_, _, _, _, _, _, _, _, hb1⟩ := hA
  have hsc : Sc w (w1.alloc (.cells #[.slice none 0 0, .slice none 0 0, .int .i64 0, .int .i64 0] 28)) gc w1.heap.size 0 ⟨none, 0, 0, none, 0, 0, 0⟩ 0 (fun _ => none) (fun _ => none) (fun _ => []) (fun k => w.heap.size ≤ k ∧ k < w1.heap.size) [] [] := by
    have hb2 : Below w1.heap.size w1 (w1.alloc (.cells #[.slice none 0 0, .slice none 0 0, .int .i64 0, .int .i64 0] 28)) := (Below.refl _ _).alloc (Nat.le_refl _) _
    exact ⟨⟨hC.below hb2, Sy.new, ⟨World.ownsRow_nil _ _ _ _, rfl, (fun k hk => by cases hk), World.ownsRow_nil _ _ _ _, rfl, (fun k hk => by cases hk)⟩, by simp, by simp⟩, At.made rfl rfl, fun h => by omega, fun k hk => hk.1, hb1.size, hb1.trans (hb2.mono hb1.size), by simp, by simp⟩
  have HSC0 := Lib.hid hsc
  have HAw := Lib.hid (awake_calls (w1.alloc (.cells #[.slice none 0 0, .slice none 0 0, .int .i64 0, .int .i64 0] 28)))
  clear hC hsc
  go_wp2_with fail
  refine HAw.out.mono ?_
  clear HAw
  rintro en w2 ⟨rfl, hb2⟩
  have HS2 := Lib.hid (HSC0.out.below hb2)
  clear hb2 hb1
  go_wp2_with fail
  obtain ⟨gB, hgB⟩ : ∃ gB, w1.heap.size = gB := ⟨_, rfl⟩
  rw [hgB] at HS2 ⊢
  clear HSC0 hgB
  go_loopg [5] 61 (fun kq v5 w' => ∃ j : Nat, v5 = .int .i64 (j : Int) ∧ Hid (j + kq = 61 ∧ j ≤ 60 ∧ j ≤ n ∧ ∃ G lk arcs cls row cb vs es, Sc w w' gc gB j G lk arcs cls row cb vs es))
  case atStart => exact ⟨0, rfl, Lib.hid ⟨by omega, by omega, by omega, _, _, _, _, _, _, _, _, HS2.out⟩⟩
  case round =>
    obtain ⟨j, rfl, hI⟩ := hrel
    obtain ⟨hjk, hj60, hjn, ⟨gA, gn, gcc, gE, gm, gce, ggw⟩, lk, arcs, cls, row, cb, vs, es, hS⟩ := hI.out
    clear hI HS2
    by_cases hj : j < n ∧ j < 60
    · clear hjn
      obtain ⟨k1, rfl⟩ : ∃ k1, gk = k1 + 1 := ⟨gk - 1, by omega⟩
      obtain ⟨⟨k, e, u, v⟩, hx⟩ : ∃ x, s[j]? = some x := ⟨_, List.getElem?_eq_getElem (by rw [HS.out.1]; exact hj.1)⟩
      obtain ⟨ad, rfl, _⟩ := HS.out.2 j k e u v hx
      have HSC := Lib.hid (fun (W : World) (hb : Below w.heap.size w W) => show W.cell? (ad.add (j * 4)) = some (.int .i64 k) ∧ W.cell? ⟨(ad.add (j * 4)).block, (ad.add (j * 4)).off + 1, none⟩ = some (.int .i64 e) ∧ W.cell? ⟨(ad.add (j * 4)).block, (ad.add (j * 4)).off + 2, none⟩ = some (.int .i64 u) ∧ W.cell? ⟨(ad.add (j * 4)).block, (ad.add (j * 4)).off + 3, none⟩ = some (.int .i64 v) from by
        obtain ⟨ad', hA, c0, c1, c2, c3⟩ := (HS.out.2.below hb) j k e u v hx
        cases hA
        exact ⟨c0, c1, c2, c3⟩)
      have j0 : (0 : Int) ≤ (j : Int) := by omega
      have j1 : (j : Int) < (n : Int) := by omega
      have j2 : (j : Int) < 60 := by omega
      have HI := Lib.hid (And.intro hjk hS)
      have HJ := Lib.hid hj.2
      clear hjk hS hj60 hj hx
      go_upto_region 8 with (fail)
      obtain ⟨wd, hwd⟩ : ∃ wd, wr.drew = wd := ⟨_, rfl⟩
      have hSd : Sc w wd gc gB j ⟨gA, gn, gcc, gE, gm, gce, ggw⟩ lk arcs cls row cb vs es := hwd ▸ HI.out.2.below (Below.refl _ _).drew
      have q0 := hSd.at_.cell 0 rfl
      have q1 := hSd.at_.cell 1 rfl
      have q2 := hSd.at_.cell 2 rfl
      have q3 := hSd.at_.cell 3 rfl
      have HP := Lib.hid (hSd.p.play k e u v)
      unfold Gp.v gV at HP
      have HSd := Lib.hid hSd
      clear hSd
      refine start_ (n := 12) (S := fun w' => w'.cell? ⟨gB, 0, none⟩ = some (.slice gA gn gcc) ∧ w'.cell? ⟨gB, 1, none⟩ = some (.slice gE gm gce) ∧ w'.cell? ⟨gB, 2, none⟩ = some (.int .i64 0) ∧ w'.cell? ⟨gB, 3, none⟩ = some (.int .i64 ggw) ∧ w'.cell? (ad.add (j * 4)) = some (.int .i64 k) ∧ w'.cell? ⟨(ad.add (j * 4)).block, (ad.add (j * 4)).off + 1, none⟩ = some (.int .i64 e) ∧ w'.cell? ⟨(ad.add (j * 4)).block, (ad.add (j * 4)).off + 2, none⟩ = some (.int .i64 u) ∧ w'.cell? ⟨(ad.add (j * 4)).block, (ad.add (j * 4)).off + 3, none⟩ = some (.int .i64 v)) (ds := [10]) (bA 12 0) (by kernel_rfl) rfl rfl ⟨(by rw [hwd]; exact q0), (by rw [hwd]; exact q1), (by rw [hwd]; exact q2), (by rw [hwd]; exact q3), (by rw [hwd]; exact (HSC.out wd HSd.out.b).1), (by rw [hwd]; exact (HSC.out wd HSd.out.b).2.1), (by rw [hwd]; exact (HSC.out wd HSd.out.b).2.2.1), (by rw [hwd]; exact (HSC.out wd HSd.out.b).2.2.2)⟩ (fun hHeld => ?_)
      rw [hwd] at hHeld ⊢
      refine with_tabW tb3_8.tab8 tb3_8.bits8 (fun HT_ HW_ => ?_)
      refine pw_ 0 26 (bA 12 1) HT_.out ?_
      refine pw_ 2 28 (bA 12 5) HT_.out ?_
      refine pw_ 3 29 (bA 12 13) HT_.out ?_
      refine pw_ 4 30 (bA 12 29) HT_.out ?_
      refine tw_ 1 27 (bA 12 31) HT_.out HW_.out hHeld (hv := by rintro w' ⟨s0, s1, s2, s3, s4, s5, s6, s7⟩; go_simp; with_reducible rfl) (h := ?_)
      refine tw_ 5 31 (bA 12 63) HT_.out HW_.out hHeld (hv := by rintro w' ⟨s0, s1, s2, s3, s4, s5, s6, s7⟩; go_simp; with_reducible rfl) (h := ?_)
      refine one_ (i := 6) (N := some 32) (bA 12 127) rfl rfl (one_of HT_.out (by kernel_rfl)) (by decide) (fun K hK => ?_)
      refine gw_ Tryz.func7 #[.pointer (some ⟨gc, 0, none⟩), .agg #[(.slice gA gn gcc), (.slice gE gm gce), (.int .i64 0), (.int .i64 ggw)], .agg #[(.int .i64 k), (.int .i64 e), (.int .i64 u), (.int .i64 v)]] ?_
      with_reducible refine (HP.out).mono ?_
      rintro ep w7 ⟨⟨xA, xn, xc, xE, xm, xce, xgw⟩, rfl, hPP⟩
      refine ⟨_, rfl, ?_⟩
      obtain ⟨hb7, hat7⟩ := HSd.out.play_below hPP
      have f0 := hat7.free 0
      have f1 := hat7.free 1
      have f2 := hat7.free 2
      have f3 := hat7.free 3
      have r0 := hat7.cell 0 rfl
      have r1 := hat7.cell 1 rfl
      have r2 := hat7.cell 2 rfl
      have r3 := hat7.cell 3 rfl
      refine hK.out _ _ ⟨r0, r1, r2, r3, (HSC.out w7 hb7).1, (HSC.out w7 hb7).2.1, (HSC.out w7 hb7).2.2.1, (HSC.out w7 hb7).2.2.2⟩ (fun hHeld => ?_)
      clear hK K
      refine norm_ (a' := ?_) ?_ ?_
      rotate_left
      · show Act.put _ (some 32) _ = _
        simp only [Act.put, pA, pB, pC, pD, pE]; rfl
      refine pw_ 7 25 (bA 12 255) HT_.out ?_
      refine pw_ 8 33 (bA 12 511) HT_.out ?_
      refine pw_ 9 34 (bA 12 1023) HT_.out ?_
      refine last_ (i := 10) (N := none) (bA 12 2047) rfl rfl (one_of HT_.out (by kernel_rfl)) (by decide) (fun K hK => ?_)
      refine skip_ (w1 := ?_) (by rfl) rfl ?_ ?_
      rotate_left; · go_simp; rfl
      refine hK.out _ _ ?_; clear hK K
      refine pw_ 11 6 (bA 12 4095) HT_.out ?_
      refine done_ (done_of HT_.out (by kernel_rfl)) ?_
      clear hHeld HT_ HW_
      obtain ⟨lk', arcs', cls', row', cb', vs', es', hS7⟩ := HSd.out.next hPP HJ.out (((((Kpt.refl (fun x => x = gB) w7).set (fun _ => rfl) (q := ⟨gB, 0, none⟩) (.slice xA xn xc)).set (fun _ => rfl) (q := ⟨gB, 1, none⟩) (.slice xE xm xce)).set (fun _ => rfl) (q := ⟨gB, 2, none⟩) (.int .i64 0)).set (fun _ => rfl) (q := ⟨gB, 3, none⟩) (.int .i64 xgw)) ((((hat7.put rfl).put rfl).put rfl).put rfl)
      refine gen_then (fun W => Sc w W gc gB (j + 1) ⟨xA, xn, xc, xE, xm, xce, xgw⟩ lk' arcs' cls' row' cb' vs' es') hS7 ?_
      clear hS7 hPP hat7 hb7 f0 f1 f2 f3 r0 r1 r2 r3 q0 q1 q2 q3 hwd HP HSd
      intro wz hS
      have HX := Lib.hid (show j + 1 + k1 = 61 ∧ j + 1 ≤ 60 ∧ j + 1 ≤ n ∧ ∃ G lk arcs cls row cb vs es, Sc w wz gc gB (j + 1) G lk arcs cls row cb vs es from ⟨by have := HI.out.1; omega, by have := HJ.out; omega, by omega, _, _, _, _, _, _, _, _, hS⟩)
      clear hS HI HJ HSC
      go_wp2
      go_roundg k1
      case measure => omega
      case rel => exact ⟨j + 1, by go_num, HX⟩
    · have q0 := hS.at_.cell 0 rfl
      have q1 := hS.at_.cell 1 rfl
      have q2 := hS.at_.cell 2 rfl
      have q3 := hS.at_.cell 3 rfl
      have HW := Lib.hid hS.p.whole
      have HZ := Lib.hid hS.b
      unfold Gp.v gV at HW
      have HJ := Lib.hid (show j = n ∨ (j < n ∧ j = 60) from by omega)
      clear hS hjk hj60 hjn hj
      rcases HJ.out with rfl | ⟨hjn, rfl⟩
      · clear HJ
        go_wp2_with fail
        refine HW.out.mono ?_
        clear HW q0 q1 q2 q3
        rintro ew w9 ⟨rfl, hb9⟩
        have HZ := Lib.hid (HZ.out.trans (hb9.mono HZ.out.size))
        clear hb9
        go_wp2
        go_ret
        exact ⟨rfl, HZ.out⟩
      · clear HJ
        have jn : (60 : Int) < (n : Int) := by omega
        go_wp2_with fail
        refine HW.out.mono ?_
        clear HW q0 q1 q2 q3
        rintro ew w9 ⟨rfl, hb9⟩
        have HZ := Lib.hid (HZ.out.trans (hb9.mono HZ.out.size))
        clear hb9
        go_wp2
        go_ret
        exact ⟨rfl, HZ.out⟩
end Go.Proofs.YthomnpgpbhpojaaGreat.Cd
