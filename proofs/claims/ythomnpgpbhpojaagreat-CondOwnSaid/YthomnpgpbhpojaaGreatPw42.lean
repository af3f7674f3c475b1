/- CondOwn. -/
import Derived.Test.YthomnpgpbhpojaaGreatPw5
import Derived.Test.YthomnpgpbhpojaaGreatPw41
namespace Go.Proofs.YthomnpgpbhpojaaGreat.Cd
open Go Go.RowKit Go.MapKept Go.Proofs.YthomnpgpbhpojaaGreat.Mem Go.Proofs.YthomnpgpbhpojaaGreat.Sl Go.Proofs.YthomnpgpbhpojaaGreat.Scc Go.Proofs.YthomnpgpbhpojaaGreat.Tj Go.Proofs.YthomnpgpbhpojaaGreat.Lw Go.Proofs.YthomnpgpbhpojaaGreat.Pt Go.Proofs.YthomnpgpbhpojaaGreatW.PrintWords Go.Proofs.YthomnpgpbhpojaaGreatW.PrintLast
attribute [local go_sem ↓] Go.wp_at_zero Go.wp_at_succ
set_option linter.unusedSimpArgs false
set_option linter.unusedVariables false

structure Qs (wr : World) (gc : Nat) (x : Int) (Gv : Value) (M H : List Int) (RA : List (Int × Int)) : Prop where
  m : ∀ W, Below wr.heap.size wr W → Calls Tryz.prog 9 #[.pointer (some ⟨gc, 0, none⟩), .int .i64 x] W fun e W' => ∃ u, e = .returned u ∧ W'.ownsRow W.heap.size 3 1 u M.length (ints M) ∧ Below W.heap.size W W'
  h : ∀ W, Below wr.heap.size wr W → Calls Tryz.prog 10 #[.pointer (some ⟨gc, 0, none⟩)] W fun e W' => ∃ u, e = .returned u ∧ W'.ownsRow W.heap.size 3 1 u H.length (ints H) ∧ Below W.heap.size W W'
  a : ∀ W, Below wr.heap.size wr W → Calls Tryz.prog 11 #[.pointer (some ⟨gc, 0, none⟩)] W fun e W' => ∃ u, e = .returned u ∧ W'.ownsRow W.heap.size 41 2 u RA.length (arcs2 RA) ∧ Below W.heap.size W W' ∧ RA.length ≤ 1000
  w : ∀ W, Below wr.heap.size wr W → Calls Tryz.prog 8 #[.pointer (some ⟨gc, 0, none⟩), Gv] W fun e W' => e = .returned (.bool true) ∧ Below W.heap.size W W'
  lm : M.length ≤ 400
  lh : H.length ≤ 400
theorem Pre.qs {w : World} {gc : Nat} {lk : Int} {arcs : Int → Option (Int × Int)} {cls : Int → Option Nat} {row : Nat → List Int} {cb : Nat → Prop} {vs : List Int} {es : List (Int × Int × Int)} {G : Gp} (h : Pre w gc lk arcs cls row cb G vs es) (x : Int) : ∃ M H RA, Qs w gc x G.v M H RA := by
  obtain ⟨ls, hG, hR, _⟩ := h.of2
  have hlv := h.lv
  have hlen : ((List.range ls.length).map (hdL ls)).length = ls.length := by simp
  have hrl : ∀ v b, cls v = some b → (row b).length ≤ 500000 := fun v b hv => Nat.le_trans (h.rowle v b hv) (by omega)
  have hml : (mems cls row x).length ≤ 400 := by
    unfold mems
    cases hx : cls x with
    | none => simp
    | some b => rw [sorted_length]; exact h.rowle x b hx
  refine ⟨mems cls row x, (List.range ls.length).map (hdL ls), refA ls es ls.length, ⟨fun W hb => ?_, fun W hb => ?_, fun W hb => ?_, fun W hb => (h.below hb).whole, hml, by rw [hlen]; have := hG.len; omega⟩⟩
  · obtain ⟨ga, go, gi, gp, gm, ob, ib, val, tg, pb, hc⟩ := h.c
    exact cMembers (hc.below hb) x hrl
  · have := (h.below hb).heads hG hR
    rw [hlen]
    exact this
  · exact (h.below hb).carcs hG hR
theorem same_own {W : World} {B B' n c c' : Nat} {A A' : Option Addr} {M : List Int} (hn : M.length = n) (h1 : W.ownsRow B 3 1 (.slice A n c) M.length (ints M)) (h2 : W.ownsRow B' 3 1 (.slice A' M.length c') M.length (ints M)) (hl : M.length ≤ 400) : Calls Tryz.prog 12 #[.slice A n c, .slice A' n c'] W fun e w' => e = .returned (.bool true) ∧ Below W.heap.size W w' := by
  subst hn
  exact (sameInts_calls W A A' c c' M M (RdI.of_own h1).1 (RdI.of_own h2).1 (by omega)).mono fun e W' ⟨he, q, hw⟩ => ⟨by rw [he]; simp, hw ▸ Below.drN (Below.refl _ _) q⟩
theorem same_ownA {W : World} {B B' n c c' : Nat} {A A' : Option Addr} {M : List (Int × Int)} (hn : M.length = n) (h1 : W.ownsRow B 41 2 (.slice A n c) M.length (arcs2 M)) (h2 : W.ownsRow B' 41 2 (.slice A' M.length c') M.length (arcs2 M)) (hl : M.length ≤ 1000) : Calls Tryz.prog 13 #[.slice A n c, .slice A' n c'] W fun e w' => e = .returned (.bool true) ∧ Below W.heap.size W w' := by
  subst hn
  exact sameArcs_calls W A A' c c' M (RdA.of_own h1).1 (RdA.of_own h2).1 hl
theorem own_last {xl xh : List Int} {xa : List (Int × Int)} {nM nH nA k : Nat} (hxl : xl.length = nM + k) (hxh : xh.length = nH + k) (hxa : xa.length = nA + k) (h : 0 < k → xl[nM]? = some 7 ∧ xh[nH]? = some 8 ∧ xa[nA]? = some (0, 9)) : (xl ++ [7])[nM]? = some 7 ∧ (xh ++ [8])[nH]? = some 8 ∧ (xa ++ [(0, 9)])[nA]? = some (0, 9) := by
  by_cases hk : 0 < k
  · obtain ⟨h1, h2, h3⟩ := h hk
    exact ⟨by rw [List.getElem?_append_left (by omega)]; exact h1, by rw [List.getElem?_append_left (by omega)]; exact h2, by rw [List.getElem?_append_left (by omega)]; exact h3⟩
  · have : k = 0 := by omega
    subst this
    rw [Nat.add_zero] at hxl hxh hxa
    subst hxl hxh hxa
    simp
section
variable {w W W' : World} {vl vh va vm vi vb v' : Value} {xl xh : List Int} {xa : List (Int × Int)} {M H : List Int} {RA : List (Int × Int)} {o : Obj}
theorem OwS.al (h : OwS w W vl vh va vm vi vb xl xh xa M H RA) {x : Int} {n : Nat} (hx : xl.length = n) (ho : W'.ownsRow w.heap.size 3 1 v' (n + 1) (ints xl ++ [.int .i64 x])) (hg : (W.alloc o).grownBy W' vl.ownBlock) (hn : v'.ownBlock = vl.ownBlock ∨ v'.ownBlock = some (W.alloc o).heap.size) : OwS w W' v' vh va vm vi vb (xl ++ [x]) xh xa M H RA :=
  (h.below ((Below.refl _ _).alloc (Nat.le_refl _) o)).gl (x' := xl ++ [x]) (by rw [List.length_append, List.length_singleton, hx, ints_app]; exact ho) hg hn
theorem OwS.ah (h : OwS w W vl vh va vm vi vb xl xh xa M H RA) {x : Int} {n : Nat} (hx : xh.length = n) (ho : W'.ownsRow w.heap.size 3 1 v' (n + 1) (ints xh ++ [.int .i64 x])) (hg : (W.alloc o).grownBy W' vh.ownBlock) (hn : v'.ownBlock = vh.ownBlock ∨ v'.ownBlock = some (W.alloc o).heap.size) : OwS w W' vl v' va vm vi vb xl (xh ++ [x]) xa M H RA :=
  (h.below ((Below.refl _ _).alloc (Nat.le_refl _) o)).gh (x' := xh ++ [x]) (by rw [List.length_append, List.length_singleton, hx, ints_app]; exact ho) hg hn
theorem OwS.aa (h : OwS w W vl vh va vm vi vb xl xh xa M H RA) {x : Int × Int} {n : Nat} (hx : xa.length = n) (ho : W'.ownsRow w.heap.size 41 2 v' (n + 1) (arcs2 xa ++ [.int .i64 x.1, .int .i64 x.2])) (hg : (W.alloc o).grownBy W' va.ownBlock) (hn : v'.ownBlock = va.ownBlock ∨ v'.ownBlock = some (W.alloc o).heap.size) : OwS w W' vl vh v' vm vi vb xl xh (xa ++ [x]) M H RA :=
  (h.below ((Below.refl _ _).alloc (Nat.le_refl _) o)).ga (x' := xa ++ [x]) (by rw [List.length_append, List.length_singleton, hx, arcs2_append]; exact ho) hg hn
end
def tb4_8.T8 : Bool × List (List Nat × List Nat) := (true, [([], []), ([], []), ([], []), ([], []), ([2, 3], [2, 3]), ([4], [4]), ([0, 1, 5], [0, 1, 5]), ([6], [6]), ([7], [7]), ([7], [7]), ([8, 6, 0, 1, 2, 3, 4, 5, 6, 7, 8], [8]), ([9, 10, 0, 1, 2, 3, 4, 5, 6, 7, 8, 9, 10], [9])])
def tb4_8.B8 : List Nat := [0, 0, 0, 0, 12, 28, 63, 127, 255, 255, 511, 2047]
theorem tb4_8.tab8 : rtab .any (opsOf Tryz.f4 8) = tb4_8.T8 := by kernel_rfl
theorem tb4_8.bits8 : waitsOk tb4_8.T8.2 tb4_8.B8 = true := by kernel_rfl
set_option maxHeartbeats 8000000 in
set_option maxRecDepth 100000 in
theorem condOwn_calls (w : World) (A : Option Addr) (c : Nat) (s : List (Int × Int × Int × Int)) (v0 : Int) (hrd : RdO w A s) :
    Calls Tryz.prog 4 #[.slice A s.length c, .int .i64 v0] w fun e w' => e = .returned (.bool true) ∧ Below w.heap.size w w' := by
  obtain ⟨i1, hi1, hz1, hs1, hy1⟩ := info_parts Lw.info_int
  obtain ⟨i2, hi2, hz2, hs2, hy2⟩ := info_parts Lw.info_arc
  obtain ⟨n, hn⟩ : ∃ n, s.length = n := ⟨_, rfl⟩
  rw [hn]
  have HS := Lib.hid (And.intro hn hrd)
  have HN := Lib.hid (aw_new w)
  clear hrd hn
  go_enter Tryz.func4, Tryz.ntmps4
  go_wp2_with fail
  refine HN.out.mono ?_
  clear HN
  rintro en w1 ⟨gc, rfl, hA, hC⟩
  obtain ⟨_, _, _, _, _, _, _, _, hb1⟩ := hA
  have hsc : Sc w (w1.alloc (.cells #[.slice none 0 0, .slice none 0 0, .int .i64 0, .int .i64 0] 28)) gc w1.heap.size 0 ⟨none, 0, 0, none, 0, 0, 0⟩ 0 (fun _ => none) (fun _ => none) (fun _ => []) (fun k => w.heap.size ≤ k ∧ k < w1.heap.size) [] [] := by
    have hb2 : Below w1.heap.size w1 (w1.alloc (.cells #[.slice none 0 0, .slice none 0 0, .int .i64 0, .int .i64 0] 28)) := (Below.refl _ _).alloc (Nat.le_refl _) _
    exact ⟨⟨hC.below hb2, Sy.new, ⟨World.ownsRow_nil _ _ _ _, rfl, (fun k hk => by cases hk), World.ownsRow_nil _ _ _ _, rfl, (fun k hk => by cases hk)⟩, by simp, by simp⟩, At.made rfl rfl, fun h => by omega, fun k hk => hk.1, hb1.size, hb1.trans (hb2.mono hb1.size), by simp, by simp⟩
  have HSC0 := Lib.hid hsc
  have HAw := Lib.hid (awake_calls (w1.alloc (.cells #[.slice none 0 0, .slice none 0 0, .int .i64 0, .int .i64 0] 28)))
  clear hC hsc
  go_wp2_with fail
  refine HAw.out.mono ?_
  clear HAw
  rintro en w2 ⟨rfl, hb2⟩
  have HS2 := Lib.hid (HSC0.out.below hb2)
  clear hb2 hb1
  go_wp2_with fail
  obtain ⟨gB, hgB⟩ : ∃ gB, w1.heap.size = gB := ⟨_, rfl⟩
  rw [hgB] at HS2 ⊢
  clear HSC0 hgB
  go_loopg [7] 61 (fun kq v7 w' => ∃ j : Nat, v7 = .int .i64 (j : Int) ∧ Hid (j + kq = 61 ∧ j ≤ 60 ∧ j ≤ n ∧ ∃ G lk arcs cls row cb vs es, Sc w w' gc gB j G lk arcs cls row cb vs es))
  case atStart => exact ⟨0, rfl, Lib.hid ⟨by omega, by omega, by omega, _, _, _, _, _, _, _, _, HS2.out⟩⟩
  case round =>
    obtain ⟨j, rfl, hI⟩ := hrel
    obtain ⟨hjk, hj60, hjn, ⟨gA, gn, gcc, gE, gm, gce, ggw⟩, lk, arcs, cls, row, cb, vs, es, hS⟩ := hI.out
    clear hI HS2
    by_cases hj : j < n ∧ j < 60
    · clear hjn
      obtain ⟨k1, rfl⟩ : ∃ k1, gk = k1 + 1 := ⟨gk - 1, by omega⟩
      obtain ⟨⟨k, e, u, v⟩, hx⟩ : ∃ x, s[j]? = some x := ⟨_, List.getElem?_eq_getElem (by rw [HS.out.1]; exact hj.1)⟩
      obtain ⟨ad, rfl, _⟩ := HS.out.2 j k e u v hx
      have HSC := Lib.hid (fun (W : World) (hb : Below w.heap.size w W) => show W.cell? (ad.add (j * 4)) = some (.int .i64 k) ∧ W.cell? ⟨(ad.add (j * 4)).block, (ad.add (j * 4)).off + 1, none⟩ = some (.int .i64 e) ∧ W.cell? ⟨(ad.add (j * 4)).block, (ad.add (j * 4)).off + 2, none⟩ = some (.int .i64 u) ∧ W.cell? ⟨(ad.add (j * 4)).block, (ad.add (j * 4)).off + 3, none⟩ = some (.int .i64 v) from by
        obtain ⟨ad', hA, c0, c1, c2, c3⟩ := (HS.out.2.below hb) j k e u v hx
        cases hA
        exact ⟨c0, c1, c2, c3⟩)
      have j0 : (0 : Int) ≤ (j : Int) := by omega
      have j1 : (j : Int) < (n : Int) := by omega
      have j2 : (j : Int) < 60 := by omega
      have HI := Lib.hid (And.intro hjk hS)
      have HJ := Lib.hid hj.2
      clear hjk hS hj60 hj hx
      go_upto_region 8 with (fail)
      obtain ⟨wd, hwd⟩ : ∃ wd, wr.drew = wd := ⟨_, rfl⟩
      have hSd : Sc w wd gc gB j ⟨gA, gn, gcc, gE, gm, gce, ggw⟩ lk arcs cls row cb vs es := hwd ▸ HI.out.2.below (Below.refl _ _).drew
      have q0 := hSd.at_.cell 0 rfl
      have q1 := hSd.at_.cell 1 rfl
      have q2 := hSd.at_.cell 2 rfl
      have q3 := hSd.at_.cell 3 rfl
      have HP := Lib.hid (hSd.p.play k e u v)
      unfold Gp.v gV at HP
      have HSd := Lib.hid hSd
      clear hSd
      refine start_ (n := 12) (S := fun w' => w'.cell? ⟨gB, 0, none⟩ = some (.slice gA gn gcc) ∧ w'.cell? ⟨gB, 1, none⟩ = some (.slice gE gm gce) ∧ w'.cell? ⟨gB, 2, none⟩ = some (.int .i64 0) ∧ w'.cell? ⟨gB, 3, none⟩ = some (.int .i64 ggw) ∧ w'.cell? (ad.add (j * 4)) = some (.int .i64 k) ∧ w'.cell? ⟨(ad.add (j * 4)).block, (ad.add (j * 4)).off + 1, none⟩ = some (.int .i64 e) ∧ w'.cell? ⟨(ad.add (j * 4)).block, (ad.add (j * 4)).off + 2, none⟩ = some (.int .i64 u) ∧ w'.cell? ⟨(ad.add (j * 4)).block, (ad.add (j * 4)).off + 3, none⟩ = some (.int .i64 v)) (ds := [10]) (bA 12 0) (by kernel_rfl) rfl rfl ⟨(by rw [hwd]; exact q0), (by rw [hwd]; exact q1), (by rw [hwd]; exact q2), (by rw [hwd]; exact q3), (by rw [hwd]; exact (HSC.out wd HSd.out.b).1), (by rw [hwd]; exact (HSC.out wd HSd.out.b).2.1), (by rw [hwd]; exact (HSC.out wd HSd.out.b).2.2.1), (by rw [hwd]; exact (HSC.out wd HSd.out.b).2.2.2)⟩ (fun hHeld => ?_)
      rw [hwd] at hHeld ⊢
      refine with_tabW tb4_8.tab8 tb4_8.bits8 (fun HT_ HW_ => ?_)
      refine pw_ 0 38 (bA 12 1) HT_.out ?_
      refine pw_ 2 40 (bA 12 5) HT_.out ?_
      refine pw_ 3 41 (bA 12 13) HT_.out ?_
      refine pw_ 4 42 (bA 12 29) HT_.out ?_
      refine tw_ 1 39 (bA 12 31) HT_.out HW_.out hHeld (hv := by rintro w' ⟨s0, s1, s2, s3, s4, s5, s6, s7⟩; go_simp; with_reducible rfl) (h := ?_)
      refine tw_ 5 43 (bA 12 63) HT_.out HW_.out hHeld (hv := by rintro w' ⟨s0, s1, s2, s3, s4, s5, s6, s7⟩; go_simp; with_reducible rfl) (h := ?_)
      refine one_ (i := 6) (N := some 44) (bA 12 127) rfl rfl (one_of HT_.out (by kernel_rfl)) (by decide) (fun K hK => ?_)
      refine gw_ Tryz.func7 #[.pointer (some ⟨gc, 0, none⟩), .agg #[(.slice gA gn gcc), (.slice gE gm gce), (.int .i64 0), (.int .i64 ggw)], .agg #[(.int .i64 k), (.int .i64 e), (.int .i64 u), (.int .i64 v)]] ?_
      with_reducible refine (HP.out).mono ?_
      rintro ep w7 ⟨⟨xA, xn, xc, xE, xm, xce, xgw⟩, rfl, hPP⟩
      refine ⟨_, rfl, ?_⟩
      obtain ⟨hb7, hat7⟩ := HSd.out.play_below hPP
      have f0 := hat7.free 0
      have f1 := hat7.free 1
      have f2 := hat7.free 2
      have f3 := hat7.free 3
      have r0 := hat7.cell 0 rfl
      have r1 := hat7.cell 1 rfl
      have r2 := hat7.cell 2 rfl
      have r3 := hat7.cell 3 rfl
      refine hK.out _ _ ⟨r0, r1, r2, r3, (HSC.out w7 hb7).1, (HSC.out w7 hb7).2.1, (HSC.out w7 hb7).2.2.1, (HSC.out w7 hb7).2.2.2⟩ (fun hHeld => ?_)
      clear hK K
      refine norm_ (a' := ?_) ?_ ?_
      rotate_left
      · show Act.put _ (some 44) _ = _
        simp only [Act.put, pA, pB, pC, pD, pE]; rfl
      refine pw_ 7 37 (bA 12 255) HT_.out ?_
      refine pw_ 8 45 (bA 12 511) HT_.out ?_
      refine pw_ 9 46 (bA 12 1023) HT_.out ?_
      refine last_ (i := 10) (N := none) (bA 12 2047) rfl rfl (one_of HT_.out (by kernel_rfl)) (by decide) (fun K hK => ?_)
      refine skip_ (w1 := ?_) (by rfl) rfl ?_ ?_
      rotate_left; · go_simp; rfl
      refine hK.out _ _ ?_; clear hK K
      refine pw_ 11 8 (bA 12 4095) HT_.out ?_
      refine done_ (done_of HT_.out (by kernel_rfl)) ?_
      clear hHeld HT_ HW_
      obtain ⟨lk', arcs', cls', row', cb', vs', es', hS7⟩ := HSd.out.next hPP HJ.out (((((Kpt.refl (fun x => x = gB) w7).set (fun _ => rfl) (q := ⟨gB, 0, none⟩) (.slice xA xn xc)).set (fun _ => rfl) (q := ⟨gB, 1, none⟩) (.slice xE xm xce)).set (fun _ => rfl) (q := ⟨gB, 2, none⟩) (.int .i64 0)).set (fun _ => rfl) (q := ⟨gB, 3, none⟩) (.int .i64 xgw)) ((((hat7.put rfl).put rfl).put rfl).put rfl)
      refine gen_then (fun W => Sc w W gc gB (j + 1) ⟨xA, xn, xc, xE, xm, xce, xgw⟩ lk' arcs' cls' row' cb' vs' es') hS7 ?_
      clear hS7 hPP hat7 hb7 f0 f1 f2 f3 r0 r1 r2 r3 q0 q1 q2 q3 hwd HP HSd
      intro wz hS
      have HX := Lib.hid (show j + 1 + k1 = 61 ∧ j + 1 ≤ 60 ∧ j + 1 ≤ n ∧ ∃ G lk arcs cls row cb vs es, Sc w wz gc gB (j + 1) G lk arcs cls row cb vs es from ⟨by have := HI.out.1; omega, by have := HJ.out; omega, by omega, _, _, _, _, _, _, _, _, hS⟩)
      clear hS HI HJ HSC
      go_wp2
      go_roundg k1
      case measure => omega
      case rel => exact ⟨j + 1, by go_num, HX⟩
    · obtain ⟨M, H, RA, hq⟩ := hS.p.qs v0
      have hJ : ¬ ((j : Int) < (n : Int)) ∨ (¬ ((j : Int) < 60) ∧ (j : Int) < (n : Int)) := by omega
      obtain ⟨nM, hnM⟩ : ∃ n, M.length = n := ⟨_, rfl⟩
      obtain ⟨nH, hnH⟩ : ∃ n, H.length = n := ⟨_, rfl⟩
      obtain ⟨nA, hnA⟩ : ∃ n, RA.length = n := ⟨_, rfl⟩
      have hat := hS.at_
      have hbw := hS.b
      refine gen_world (fun W => Qs W gc v0 (Gp.v ⟨gA, gn, gcc, gE, gm, gce, ggw⟩) M H RA ∧ At W gB [.slice gA gn gcc, .slice gE gm gce, .int .i64 0, .int .i64 ggw] 28 ∧ Below w.heap.size w W) ⟨hq, hat, hbw⟩ ?_
      clear hq hat hbw hS hjk hj60 hjn hj
      rintro w0 hh
      have HQ := Lib.hid hh.1
      have HW := Lib.hid hh.2
      clear hh
      unfold Gp.v gV at HQ
      rcases hJ with hJ | ⟨hJ, hJn⟩
      · skip
        go_wp2_with fail
        refine (HQ.out.m w0 (Below.refl _ _)).mono ?_
        rintro e1 w1 ⟨u1, rfl, o1, b1⟩
        obtain ⟨A1, c1, rfl⟩ := Lw.own_slice o1
        have HB1 := Lib.hid (b1)
        have HO1 := Lib.hid (And.intro o1 b1)
        clear o1 b1
        go_wp2_with fail
        refine (HQ.out.h w1 HB1.out).mono ?_
        rintro e2 w2 ⟨u2, rfl, o2, b2⟩
        obtain ⟨A2, c2, rfl⟩ := Lw.own_slice o2
        have HB2 := Lib.hid (HB1.out.trans (b2.mono HB1.out.size))
        have HO2 := Lib.hid (And.intro o2 b2)
        clear o2 b2
        go_wp2_with fail
        refine (HQ.out.a w2 HB2.out).mono ?_
        rintro e3 w3 ⟨u3, rfl, o3, b3, hla⟩
        obtain ⟨A3, c3, rfl⟩ := Lw.own_slice o3
        have HB3 := Lib.hid (HB2.out.trans (b3.mono HB2.out.size))
        have HO3 := Lib.hid (And.intro o3 b3)
        clear o3 b3
        go_wp2_with fail
        refine (HQ.out.m w3 HB3.out).mono ?_
        rintro e4 w4 ⟨u4, rfl, o4, b4⟩
        obtain ⟨A4, c4, rfl⟩ := Lw.own_slice o4
        have HB4 := Lib.hid (HB3.out.trans (b4.mono HB3.out.size))
        have HO4 := Lib.hid (And.intro o4 b4)
        clear o4 b4
        go_wp2_with fail
        refine (HQ.out.h w4 HB4.out).mono ?_
        rintro e5 w5 ⟨u5, rfl, o5, b5⟩
        obtain ⟨A5, c5, rfl⟩ := Lw.own_slice o5
        have HB5 := Lib.hid (HB4.out.trans (b5.mono HB4.out.size))
        have HO5 := Lib.hid (And.intro o5 b5)
        clear o5 b5
        go_wp2_with fail
        refine (HQ.out.a w5 HB5.out).mono ?_
        rintro e6 w6 ⟨u6, rfl, o6, b6, _⟩
        obtain ⟨A6, c6, rfl⟩ := Lw.own_slice o6
        have HB6 := Lib.hid (HB5.out.trans (b6.mono HB5.out.size))
        have HO6 := Lib.hid (And.intro o6 b6)
        clear o6 b6
        have HNN := Lib.hid (And.intro hnM (And.intro hnH hnA))
        have HS := Lib.hid (show ∃ xl xh xa, xl.length = nM ∧ xh.length = nH ∧ xa.length = nA ∧ OwS w0 w6 (.slice A1 nM c1) (.slice A2 nH c2) (.slice A3 nA c3) (.slice A4 nM c4) (.slice A5 nH c5) (.slice A6 nA c6) xl xh xa M H RA from ⟨M, H, RA, hnM, hnH, hnA, by
          have := OwS.start HO1.out.1 HO1.out.2 HO2.out.1 HO2.out.2 HO3.out.1 HO3.out.2 HO4.out.1 HO4.out.2 HO5.out.1 HO5.out.2 HO6.out.1 HO6.out.2
          rwa [hnM, hnH, hnA] at this⟩)
        have hlM := HQ.out.lm
        have hlH := HQ.out.lh
        rw [hnM] at hlM
        rw [hnH] at hlH
        rw [hnA] at hla
        clear HO1 HO2 HO3 HO4 HO5 HO6 HB1 HB2 HB3 HB4 HB5 HB6
        go_wp2_with fail
        clear hnM hnH hnA
        go_loopg [65] (nM + 1) (fun kq vk w' => ∃ k : Nat, vk = .int .i64 (k : Int) ∧ Hid (k + kq = nM + 1 ∧ k ≤ nM ∧ ∃ xl xh xa, xl.length = nM ∧ xh.length = nH ∧ xa.length = nA ∧ OwS w0 w' (.slice A1 nM c1) (.slice A2 nH c2) (.slice A3 nA c3) (.slice A4 nM c4) (.slice A5 nH c5) (.slice A6 nA c6) xl xh xa M H RA))
        case atStart => exact ⟨0, rfl, Lib.hid ⟨by omega, by omega, HS.out⟩⟩
        case round =>
          obtain ⟨k, rfl, hI⟩ := hrel
          obtain ⟨hkk, hkn, xl, xh, xa, hxl, hxh, hxa, hS⟩ := hI.out
          clear hI HS
          by_cases hk : k < nM
          · obtain ⟨k1, rfl⟩ : ∃ k1, gk = k1 + 1 := ⟨gk - 1, by omega⟩
            have k0 : (0 : Int) ≤ (k : Int) := by omega
            have k1' : (k : Int) < (nM : Int) := by omega
            have k2' : (nM : Int) ≤ 1000 := by omega
            have hl := hS.l
            rw [hxl] at hl
            obtain ⟨g, cap, hv, _⟩ := hl.form (by omega)
            have hA : A1 = some ⟨g, 0, none⟩ := by cases hv; rfl
            subst hA
            clear hv
            obtain ⟨y, hy⟩ : ∃ y, xl[k]? = some y := ⟨_, List.getElem?_eq_getElem (by omega)⟩
            have e0 : wr.cell? ⟨g, k, none⟩ = some (.int .i64 y) := (hl.cellAt k (by omega)).trans (Mem.ints_at _ hy)
            have f0 : wr.frozen? ⟨g, k, none⟩ = false := hl.frozenAt k
            have hw := OwS.wl (xl := xl) (g := g) (c := c1) (by rw [hxl]; exact hS) k (-1)
            rw [hxl] at hw
            clear hy
            have HX := Lib.hid (show k + 1 + k1 = nM + 1 ∧ k + 1 ≤ nM ∧ ∃ xl xh xa, xl.length = nM ∧ xh.length = nH ∧ xa.length = nA ∧ OwS w0 (wr.setCell ⟨g, k, none⟩ (.int .i64 (-1))) (.slice (some ⟨g, 0, none⟩) nM c1) (.slice A2 nH c2) (.slice A3 nA c3) (.slice A4 nM c4) (.slice A5 nH c5) (.slice A6 nA c6) xl xh xa M H RA from ⟨by omega, by omega, xl.set k (-1), xh, xa, by rw [List.length_set]; exact hxl, hxh, hxa, hw⟩)
            clear hS hxl hxh hxa hkk hkn hk hl hw
            go_wp2
            go_roundg k1
            case measure => omega
            case rel => exact ⟨k + 1, by go_num, HX⟩
          · have hkn : k = nM := by omega
            have kn : ¬ ((k : Int) < (nM : Int)) := by omega
            have HS := Lib.hid (show ∃ xl xh xa, xl.length = nM ∧ xh.length = nH ∧ xa.length = nA ∧ OwS w0 wr (.slice A1 nM c1) (.slice A2 nH c2) (.slice A3 nA c3) (.slice A4 nM c4) (.slice A5 nH c5) (.slice A6 nA c6) xl xh xa M H RA from ⟨xl, xh, xa, hxl, hxh, hxa, hS⟩)
            clear hS hxl hxh hxa hkk hkn hk
            go_wp2_with fail
            go_loopg [74] (nH + 1) (fun kq vk w' => ∃ k : Nat, vk = .int .i64 (k : Int) ∧ Hid (k + kq = nH + 1 ∧ k ≤ nH ∧ ∃ xl xh xa, xl.length = nM ∧ xh.length = nH ∧ xa.length = nA ∧ OwS w0 w' (.slice A1 nM c1) (.slice A2 nH c2) (.slice A3 nA c3) (.slice A4 nM c4) (.slice A5 nH c5) (.slice A6 nA c6) xl xh xa M H RA))
            case atStart => exact ⟨0, rfl, Lib.hid ⟨by omega, by omega, HS.out⟩⟩
            case round =>
              obtain ⟨k, rfl, hI⟩ := hrel
              obtain ⟨hkk, hkn, xl, xh, xa, hxl, hxh, hxa, hS⟩ := hI.out
              clear hI HS
              by_cases hk : k < nH
              · obtain ⟨k1, rfl⟩ : ∃ k1, gk = k1 + 1 := ⟨gk - 1, by omega⟩
                have k0 : (0 : Int) ≤ (k : Int) := by omega
                have k1' : (k : Int) < (nH : Int) := by omega
                have k2' : (nH : Int) ≤ 1000 := by omega
                have hl := hS.h
                rw [hxh] at hl
                obtain ⟨g, cap, hv, _⟩ := hl.form (by omega)
                have hA : A2 = some ⟨g, 0, none⟩ := by cases hv; rfl
                subst hA
                clear hv
                obtain ⟨y, hy⟩ : ∃ y, xh[k]? = some y := ⟨_, List.getElem?_eq_getElem (by omega)⟩
                have e0 : wr.cell? ⟨g, k, none⟩ = some (.int .i64 y) := (hl.cellAt k (by omega)).trans (Mem.ints_at _ hy)
                have f0 : wr.frozen? ⟨g, k, none⟩ = false := hl.frozenAt k
                have hw := OwS.wh (xh := xh) (g := g) (c := c2) (by rw [hxh]; exact hS) k (-2)
                rw [hxh] at hw
                clear hy
                have HX := Lib.hid (show k + 1 + k1 = nH + 1 ∧ k + 1 ≤ nH ∧ ∃ xl xh xa, xl.length = nM ∧ xh.length = nH ∧ xa.length = nA ∧ OwS w0 (wr.setCell ⟨g, k, none⟩ (.int .i64 (-2))) (.slice A1 nM c1) (.slice (some ⟨g, 0, none⟩) nH c2) (.slice A3 nA c3) (.slice A4 nM c4) (.slice A5 nH c5) (.slice A6 nA c6) xl xh xa M H RA from ⟨by omega, by omega, xl, xh.set k (-2), xa, hxl, by rw [List.length_set]; exact hxh, hxa, hw⟩)
                clear hS hxl hxh hxa hkk hkn hk hl hw
                go_wp2
                go_roundg k1
                case measure => omega
                case rel => exact ⟨k + 1, by go_num, HX⟩
              · have hkn : k = nH := by omega
                have kn : ¬ ((k : Int) < (nH : Int)) := by omega
                have HS := Lib.hid (show ∃ xl xh xa, xl.length = nM ∧ xh.length = nH ∧ xa.length = nA ∧ OwS w0 wr (.slice A1 nM c1) (.slice A2 nH c2) (.slice A3 nA c3) (.slice A4 nM c4) (.slice A5 nH c5) (.slice A6 nA c6) xl xh xa M H RA from ⟨xl, xh, xa, hxl, hxh, hxa, hS⟩)
                clear hS hxl hxh hxa hkk hkn hk
                go_wp2_with fail
                go_loopg [83] (nA + 1) (fun kq vk w' => ∃ k : Nat, vk = .int .i64 (k : Int) ∧ Hid (k + kq = nA + 1 ∧ k ≤ nA ∧ ∃ xl xh xa, xl.length = nM ∧ xh.length = nH ∧ xa.length = nA ∧ OwS w0 w' (.slice A1 nM c1) (.slice A2 nH c2) (.slice A3 nA c3) (.slice A4 nM c4) (.slice A5 nH c5) (.slice A6 nA c6) xl xh xa M H RA))
                case atStart => exact ⟨0, rfl, Lib.hid ⟨by omega, by omega, HS.out⟩⟩
                case round =>
                  obtain ⟨k, rfl, hI⟩ := hrel
                  obtain ⟨hkk, hkn, xl, xh, xa, hxl, hxh, hxa, hS⟩ := hI.out
                  clear hI HS
                  by_cases hk : k < nA
                  · obtain ⟨k1, rfl⟩ : ∃ k1, gk = k1 + 1 := ⟨gk - 1, by omega⟩
                    have k0 : (0 : Int) ≤ (k : Int) := by omega
                    have k1' : (k : Int) < (nA : Int) := by omega
                    have k2' : (nA : Int) ≤ 1000 := by omega
                    have hl := hS.a
                    rw [hxa] at hl
                    obtain ⟨g, cap, hv, _⟩ := hl.form (by omega)
                    have hA : A3 = some ⟨g, 0, none⟩ := by cases hv; rfl
                    subst hA
                    clear hv
                    obtain ⟨⟨y1, y2⟩, hy⟩ : ∃ y, xa[k]? = some y := ⟨_, List.getElem?_eq_getElem (by omega)⟩
                    have hya := arcs2_at xa k y1 y2 hy
                    have e0 : wr.cell? ⟨g, k * 2, none⟩ = some (.int .i64 y1) := (hl.cellAt _ (by omega)).trans hya.1
                    have e1 : wr.cell? ⟨g, k * 2 + 1, none⟩ = some (.int .i64 y2) := (hl.cellAt _ (by omega)).trans hya.2
                    have f0 : wr.frozen? ⟨g, k * 2, none⟩ = false := hl.frozenAt _
                    have f1 : wr.frozen? ⟨g, k * 2 + 1, none⟩ = false := hl.frozenAt _
                    have hw := OwS.wa (xa := xa) (g := g) (c := c3) (by rw [hxa]; exact hS) k (-3, 0)
                    rw [hxa] at hw
                    clear hy hya
                    have HX := Lib.hid (show k + 1 + k1 = nA + 1 ∧ k + 1 ≤ nA ∧ ∃ xl xh xa, xl.length = nM ∧ xh.length = nH ∧ xa.length = nA ∧ OwS w0 ((wr.setCell ⟨g, k * 2, none⟩ (.int .i64 (-3))).setCell ⟨g, k * 2 + 1, none⟩ (.int .i64 0)) (.slice A1 nM c1) (.slice A2 nH c2) (.slice (some ⟨g, 0, none⟩) nA c3) (.slice A4 nM c4) (.slice A5 nH c5) (.slice A6 nA c6) xl xh xa M H RA from ⟨by omega, by omega, xl, xh, xa.set k (-3, 0), hxl, hxh, by rw [List.length_set]; exact hxa, hw⟩)
                    clear hS hxl hxh hxa hkk hkn hk hl hw
                    go_wp2
                    go_roundg k1
                    case measure => omega
                    case rel => exact ⟨k + 1, by go_num, HX⟩
                  · have hkn : k = nA := by omega
                    have kn : ¬ ((k : Int) < (nA : Int)) := by omega
                    have HS := Lib.hid (show ∃ xl xh xa, xl.length = nM ∧ xh.length = nH ∧ xa.length = nA ∧ OwS w0 wr (.slice A1 nM c1) (.slice A2 nH c2) (.slice A3 nA c3) (.slice A4 nM c4) (.slice A5 nH c5) (.slice A6 nA c6) xl xh xa M H RA from ⟨xl, xh, xa, hxl, hxh, hxa, hS⟩)
                    clear hS hxl hxh hxa hkk hkn hk
                    go_wp2_with fail
                    go_loopg [9, 10, 11, 18] 21 (fun kq v9 v10 v11 v18 w' => ∃ (k : Nat) (B1 : Option Addr) (d1 : Nat) (B2 : Option Addr) (d2 : Nat) (B3 : Option Addr) (d3 : Nat), v9 = .slice B1 (nM + k) d1 ∧ v10 = .slice B2 (nH + k) d2 ∧ v11 = .slice B3 (nA + k) d3 ∧ v18 = .int .i64 (k : Int) ∧ Hid (k + kq = 21 ∧ k ≤ 20 ∧ ∃ xl xh xa, xl.length = nM + k ∧ xh.length = nH + k ∧ xa.length = nA + k ∧ (0 < k → xl[nM]? = some 7 ∧ xh[nH]? = some 8 ∧ xa[nA]? = some (0, 9)) ∧ OwS w0 w' (.slice B1 (nM + k) d1) (.slice B2 (nH + k) d2) (.slice B3 (nA + k) d3) (.slice A4 nM c4) (.slice A5 nH c5) (.slice A6 nA c6) xl xh xa M H RA))
                    case atStart =>
                      obtain ⟨xl, xh, xa, e1, e2, e3, hq⟩ := HS.out
                      exact ⟨0, A1, c1, A2, c2, A3, c3, rfl, rfl, rfl, rfl, Lib.hid ⟨by omega, by omega, xl, xh, xa, e1, e2, e3, fun h => absurd h (by omega), hq⟩⟩
                    case round =>
                      obtain ⟨k, B1, d1, B2, d2, B3, d3, rfl, rfl, rfl, rfl, hI⟩ := hrel
                      obtain ⟨hkk, hkn, xl, xh, xa, hxl, hxh, hxa, hlast, hR0⟩ := hI.out
                      clear hI HS
                      by_cases hk : k < 20
                      · obtain ⟨k1, rfl⟩ : ∃ k1, gk = k1 + 1 := ⟨gk - 1, by omega⟩
                        have k0 : (0 : Int) ≤ (k : Int) := by omega
                        have k1' : (k : Int) < 20 := by omega
                        have hl := hR0.l
                        rw [hxl] at hl
                        go_wp2_with ((at_builtin; first | (refine wpList_append_any rfl (.tmp 95) (.tmp 96) 25 rfl w0.heap.size 3 i1 (.int .i64 0) 1 8 Tryz.underlying25 hi1 hz1 hs1 hy1 rfl (by omega) _ _ _ rfl (hl.alloc (.cells #[.int .i64 7] 3)) _ rfl 1 [.int .i64 7] (RdV.lit _ #[.int .i64 7] 3 1 1 1 rfl (by simp [Value.oneCell'])) (by unfold maxLen; omega) (by omega) (by have := hR0.b.size; simp; omega) ?_; intro v1 W1 ho hg hn; obtain ⟨E1, f1, rfl⟩ := Lw.own_slice ho; have hR1 := hR0.al (x := 7) hxl ho hg hn; have hl2 := hR1.h; rw [hxh] at hl2; clear hl ho hg hn hR0) | (refine wpList_append_any rfl (.tmp 98) (.tmp 99) 25 rfl w0.heap.size 3 i1 (.int .i64 0) 1 8 Tryz.underlying25 hi1 hz1 hs1 hy1 rfl (by omega) _ _ _ rfl (hl2.alloc (.cells #[.int .i64 8] 3)) _ rfl 1 [.int .i64 8] (RdV.lit _ #[.int .i64 8] 3 1 1 1 rfl (by simp [Value.oneCell'])) (by unfold maxLen; omega) (by omega) (by have := hR1.b.size; simp; omega) ?_; intro v2 W2 ho hg hn; obtain ⟨E2, f2, rfl⟩ := Lw.own_slice ho; have hR2 := hR1.ah (x := 8) hxh ho hg hn; have hl3 := hR2.a; rw [hxa] at hl3; clear hl2 ho hg hn hR1) | (refine wpList_append_any rfl (.tmp 101) (.tmp 103) 38 rfl w0.heap.size 41 i2 (.agg #[.int .i64 0, .int .i64 0]) 2 16 Tryz.underlying38 hi2 hz2 hs2 hy2 rfl (by omega) _ _ _ rfl (hl3.alloc (.cells #[.int .i64 0, .int .i64 9] 41)) _ rfl 1 [.int .i64 0, .int .i64 9] (RdV.lit _ #[.int .i64 0, .int .i64 9] 41 1 2 1 rfl (by simp [Value.oneCell'])) (by unfold maxLen; omega) (by omega) (by have := hR2.b.size; simp; omega) ?_; intro v3 W3 ho hg hn; obtain ⟨E3, f3, rfl⟩ := Lw.own_slice ho; have hR3 := hR2.aa (x := (0, 9)) hxa ho hg hn; clear hl3 ho hg hn hR2)))
                        have HX := Lib.hid (show k + 1 + k1 = 21 ∧ k + 1 ≤ 20 ∧ ∃ xl xh xa, xl.length = nM + (k + 1) ∧ xh.length = nH + (k + 1) ∧ xa.length = nA + (k + 1) ∧ (0 < (k + 1) → xl[nM]? = some 7 ∧ xh[nH]? = some 8 ∧ xa[nA]? = some (0, 9)) ∧ OwS w0 W3 (.slice E1 (nM + (k + 1)) f1) (.slice E2 (nH + (k + 1)) f2) (.slice E3 (nA + (k + 1)) f3) (.slice A4 nM c4) (.slice A5 nH c5) (.slice A6 nA c6) xl xh xa M H RA from ⟨by omega, by omega, xl ++ [7], xh ++ [8], xa ++ [(0, 9)], by rw [List.length_append, hxl]; rfl, by rw [List.length_append, hxh]; rfl, by rw [List.length_append, hxa]; rfl, fun _ => own_last hxl hxh hxa hlast, hR3⟩)
                        clear hR3 hxl hxh hxa hlast hkk hkn hk
                        go_roundg k1
                        case measure => omega
                        case rel => exact ⟨k + 1, E1, f1, E2, f2, E3, f3, rfl, rfl, rfl, by go_num, HX⟩
                      · have kn : ¬ ((k : Int) < 20) := by omega
                        obtain ⟨hx1, hx2, hx3⟩ := hlast (by omega)
                        obtain ⟨hnM, hnH, hnA⟩ := HNN.out
                        have HR := Lib.hid hR0
                        clear hlast hR0 hk
                        go_wp2_with fail
                        refine (HQ.out.m wr HR.out.b).mono ?_
                        rintro e7 w7 ⟨u7, rfl, o7, b7⟩
                        obtain ⟨A7, c7, rfl⟩ := Lw.own_slice o7
                        have HR7 := Lib.hid (HR.out.below b7)
                        have HC := Lib.hid (same_own hnM HR7.out.m o7 HQ.out.lm)
                        clear o7 b7 HR
                        go_wp2_with fail
                        refine HC.out.mono ?_
                        rintro e8 w8 ⟨rfl, b8⟩
                        have HR8 := Lib.hid (HR7.out.below b8)
                        clear b8 HC HR7
                        go_wp2_with fail
                        refine (HQ.out.h w8 HR8.out.b).mono ?_
                        rintro e9 w9 ⟨u9, rfl, o9, b9⟩
                        obtain ⟨A9, c9, rfl⟩ := Lw.own_slice o9
                        have HR9 := Lib.hid (HR8.out.below b9)
                        have HC := Lib.hid (same_own hnH HR9.out.i o9 HQ.out.lh)
                        clear o9 b9 HR8
                        go_wp2_with fail
                        refine HC.out.mono ?_
                        rintro e10 w10 ⟨rfl, b10⟩
                        have HR10 := Lib.hid (HR9.out.below b10)
                        clear b10 HC HR9
                        go_wp2_with fail
                        refine (HQ.out.a w10 HR10.out.b).mono ?_
                        rintro e11 w11 ⟨u11, rfl, o11, b11, hl11⟩
                        obtain ⟨A11, c11, rfl⟩ := Lw.own_slice o11
                        have HR11 := Lib.hid (HR10.out.below b11)
                        have HC := Lib.hid (same_ownA hnA HR11.out.r o11 hl11)
                        clear o11 b11 HR10 hl11
                        go_wp2_with fail
                        refine HC.out.mono ?_
                        rintro e12 w12 ⟨rfl, b12⟩
                        have HR12 := Lib.hid (HR11.out.below b12)
                        clear b12 HC HR11
                        have hat := HW.out.1.below HR12.out.b HW.out.1.lt
                        have q0 := hat.cell 0 rfl
                        have q1 := hat.cell 1 rfl
                        have q2 := hat.cell 2 rfl
                        have q3 := hat.cell 3 rfl
                        clear hat
                        go_wp2_with fail
                        refine (HQ.out.w w12 HR12.out.b).mono ?_
                        rintro e13 w13 ⟨rfl, b13⟩
                        have hR := HR12.out.below b13
                        clear b13 HR12 q0 q1 q2 q3
                        have hl := hR.l
                        have hh := hR.h
                        have ha := hR.a
                        rw [hxl] at hl
                        rw [hxh] at hh
                        rw [hxa] at ha
                        obtain ⟨g1, cap1, hv1, _⟩ := hl.form (by omega)
                        have hB1 : B1 = some ⟨g1, 0, none⟩ := by cases hv1; rfl
                        obtain ⟨g2, cap2, hv2, _⟩ := hh.form (by omega)
                        have hB2 : B2 = some ⟨g2, 0, none⟩ := by cases hv2; rfl
                        obtain ⟨g3, cap3, hv3, _⟩ := ha.form (by omega)
                        have hB3 : B3 = some ⟨g3, 0, none⟩ := by cases hv3; rfl
                        subst hB1 hB2 hB3
                        clear hv1 hv2 hv3
                        have e1 : w13.cell? ⟨g1, nM, none⟩ = some (.int .i64 7) := (hl.cellAt nM (by omega)).trans (Mem.ints_at _ hx1)
                        have e2 : w13.cell? ⟨g2, nH, none⟩ = some (.int .i64 8) := (hh.cellAt nH (by omega)).trans (Mem.ints_at _ hx2)
                        have e3 : w13.cell? ⟨g3, nA * 2 + 1, none⟩ = some (.int .i64 9) := (ha.cellAt (nA * 2 + 1) (by omega)).trans (arcs2_at xa nA 0 9 hx3).2
                        have hend := HW.out.2.trans (hR.b.mono HW.out.2.size)
                        have HE := Lib.hid hend
                        clear hl hh ha hR hend hx1 hx2 hx3 hxl hxh hxa
                        have a0 : (0 : Int) ≤ (nM : Int) := by omega
                        have a1 : (nM : Int) < ((nM + k : Nat) : Int) := by omega
                        have a2 : (nM : Int) < (nM : Int) + (k : Int) := by omega
                        have b0 : (0 : Int) ≤ (nH : Int) := by omega
                        have b1 : (nH : Int) < ((nH + k : Nat) : Int) := by omega
                        have b2 : (nH : Int) < (nH : Int) + (k : Int) := by omega
                        have c0 : (0 : Int) ≤ (nA : Int) := by omega
                        have c1 : (nA : Int) < ((nA + k : Nat) : Int) := by omega
                        have c2 : (nA : Int) < (nA : Int) + (k : Int) := by omega
                        go_wp2
                        go_ret
                        exact ⟨rfl, HE.out⟩
      · skip
        go_wp2_with fail
        refine (HQ.out.m w0 (Below.refl _ _)).mono ?_
        rintro e1 w1 ⟨u1, rfl, o1, b1⟩
        obtain ⟨A1, c1, rfl⟩ := Lw.own_slice o1
        have HB1 := Lib.hid (b1)
        have HO1 := Lib.hid (And.intro o1 b1)
        clear o1 b1
        go_wp2_with fail
        refine (HQ.out.h w1 HB1.out).mono ?_
        rintro e2 w2 ⟨u2, rfl, o2, b2⟩
        obtain ⟨A2, c2, rfl⟩ := Lw.own_slice o2
        have HB2 := Lib.hid (HB1.out.trans (b2.mono HB1.out.size))
        have HO2 := Lib.hid (And.intro o2 b2)
        clear o2 b2
        go_wp2_with fail
        refine (HQ.out.a w2 HB2.out).mono ?_
        rintro e3 w3 ⟨u3, rfl, o3, b3, hla⟩
        obtain ⟨A3, c3, rfl⟩ := Lw.own_slice o3
        have HB3 := Lib.hid (HB2.out.trans (b3.mono HB2.out.size))
        have HO3 := Lib.hid (And.intro o3 b3)
        clear o3 b3
        go_wp2_with fail
        refine (HQ.out.m w3 HB3.out).mono ?_
        rintro e4 w4 ⟨u4, rfl, o4, b4⟩
        obtain ⟨A4, c4, rfl⟩ := Lw.own_slice o4
        have HB4 := Lib.hid (HB3.out.trans (b4.mono HB3.out.size))
        have HO4 := Lib.hid (And.intro o4 b4)
        clear o4 b4
        go_wp2_with fail
        refine (HQ.out.h w4 HB4.out).mono ?_
        rintro e5 w5 ⟨u5, rfl, o5, b5⟩
        obtain ⟨A5, c5, rfl⟩ := Lw.own_slice o5
        have HB5 := Lib.hid (HB4.out.trans (b5.mono HB4.out.size))
        have HO5 := Lib.hid (And.intro o5 b5)
        clear o5 b5
        go_wp2_with fail
        refine (HQ.out.a w5 HB5.out).mono ?_
        rintro e6 w6 ⟨u6, rfl, o6, b6, _⟩
        obtain ⟨A6, c6, rfl⟩ := Lw.own_slice o6
        have HB6 := Lib.hid (HB5.out.trans (b6.mono HB5.out.size))
        have HO6 := Lib.hid (And.intro o6 b6)
        clear o6 b6
        have HNN := Lib.hid (And.intro hnM (And.intro hnH hnA))
        have HS := Lib.hid (show ∃ xl xh xa, xl.length = nM ∧ xh.length = nH ∧ xa.length = nA ∧ OwS w0 w6 (.slice A1 nM c1) (.slice A2 nH c2) (.slice A3 nA c3) (.slice A4 nM c4) (.slice A5 nH c5) (.slice A6 nA c6) xl xh xa M H RA from ⟨M, H, RA, hnM, hnH, hnA, by
          have := OwS.start HO1.out.1 HO1.out.2 HO2.out.1 HO2.out.2 HO3.out.1 HO3.out.2 HO4.out.1 HO4.out.2 HO5.out.1 HO5.out.2 HO6.out.1 HO6.out.2
          rwa [hnM, hnH, hnA] at this⟩)
        have hlM := HQ.out.lm
        have hlH := HQ.out.lh
        rw [hnM] at hlM
        rw [hnH] at hlH
        rw [hnA] at hla
        clear HO1 HO2 HO3 HO4 HO5 HO6 HB1 HB2 HB3 HB4 HB5 HB6
        go_wp2_with fail
        clear hnM hnH hnA
        go_loopg [65] (nM + 1) (fun kq vk w' => ∃ k : Nat, vk = .int .i64 (k : Int) ∧ Hid (k + kq = nM + 1 ∧ k ≤ nM ∧ ∃ xl xh xa, xl.length = nM ∧ xh.length = nH ∧ xa.length = nA ∧ OwS w0 w' (.slice A1 nM c1) (.slice A2 nH c2) (.slice A3 nA c3) (.slice A4 nM c4) (.slice A5 nH c5) (.slice A6 nA c6) xl xh xa M H RA))
        case atStart => exact ⟨0, rfl, Lib.hid ⟨by omega, by omega, HS.out⟩⟩
        case round =>
          obtain ⟨k, rfl, hI⟩ := hrel
          obtain ⟨hkk, hkn, xl, xh, xa, hxl, hxh, hxa, hS⟩ := hI.out
          clear hI HS
          by_cases hk : k < nM
          · obtain ⟨k1, rfl⟩ : ∃ k1, gk = k1 + 1 := ⟨gk - 1, by omega⟩
            have k0 : (0 : Int) ≤ (k : Int) := by omega
            have k1' : (k : Int) < (nM : Int) := by omega
            have k2' : (nM : Int) ≤ 1000 := by omega
            have hl := hS.l
            rw [hxl] at hl
            obtain ⟨g, cap, hv, _⟩ := hl.form (by omega)
            have hA : A1 = some ⟨g, 0, none⟩ := by cases hv; rfl
            subst hA
            clear hv
            obtain ⟨y, hy⟩ : ∃ y, xl[k]? = some y := ⟨_, List.getElem?_eq_getElem (by omega)⟩
            have e0 : wr.cell? ⟨g, k, none⟩ = some (.int .i64 y) := (hl.cellAt k (by omega)).trans (Mem.ints_at _ hy)
            have f0 : wr.frozen? ⟨g, k, none⟩ = false := hl.frozenAt k
            have hw := OwS.wl (xl := xl) (g := g) (c := c1) (by rw [hxl]; exact hS) k (-1)
            rw [hxl] at hw
            clear hy
            have HX := Lib.hid (show k + 1 + k1 = nM + 1 ∧ k + 1 ≤ nM ∧ ∃ xl xh xa, xl.length = nM ∧ xh.length = nH ∧ xa.length = nA ∧ OwS w0 (wr.setCell ⟨g, k, none⟩ (.int .i64 (-1))) (.slice (some ⟨g, 0, none⟩) nM c1) (.slice A2 nH c2) (.slice A3 nA c3) (.slice A4 nM c4) (.slice A5 nH c5) (.slice A6 nA c6) xl xh xa M H RA from ⟨by omega, by omega, xl.set k (-1), xh, xa, by rw [List.length_set]; exact hxl, hxh, hxa, hw⟩)
            clear hS hxl hxh hxa hkk hkn hk hl hw
            go_wp2
            go_roundg k1
            case measure => omega
            case rel => exact ⟨k + 1, by go_num, HX⟩
          · have hkn : k = nM := by omega
            have kn : ¬ ((k : Int) < (nM : Int)) := by omega
            have HS := Lib.hid (show ∃ xl xh xa, xl.length = nM ∧ xh.length = nH ∧ xa.length = nA ∧ OwS w0 wr (.slice A1 nM c1) (.slice A2 nH c2) (.slice A3 nA c3) (.slice A4 nM c4) (.slice A5 nH c5) (.slice A6 nA c6) xl xh xa M H RA from ⟨xl, xh, xa, hxl, hxh, hxa, hS⟩)
            clear hS hxl hxh hxa hkk hkn hk
            go_wp2_with fail
            go_loopg [74] (nH + 1) (fun kq vk w' => ∃ k : Nat, vk = .int .i64 (k : Int) ∧ Hid (k + kq = nH + 1 ∧ k ≤ nH ∧ ∃ xl xh xa, xl.length = nM ∧ xh.length = nH ∧ xa.length = nA ∧ OwS w0 w' (.slice A1 nM c1) (.slice A2 nH c2) (.slice A3 nA c3) (.slice A4 nM c4) (.slice A5 nH c5) (.slice A6 nA c6) xl xh xa M H RA))
            case atStart => exact ⟨0, rfl, Lib.hid ⟨by omega, by omega, HS.out⟩⟩
            case round =>
              obtain ⟨k, rfl, hI⟩ := hrel
              obtain ⟨hkk, hkn, xl, xh, xa, hxl, hxh, hxa, hS⟩ := hI.out
              clear hI HS
              by_cases hk : k < nH
              · obtain ⟨k1, rfl⟩ : ∃ k1, gk = k1 + 1 := ⟨gk - 1, by omega⟩
                have k0 : (0 : Int) ≤ (k : Int) := by omega
                have k1' : (k : Int) < (nH : Int) := by omega
                have k2' : (nH : Int) ≤ 1000 := by omega
                have hl := hS.h
                rw [hxh] at hl
                obtain ⟨g, cap, hv, _⟩ := hl.form (by omega)
                have hA : A2 = some ⟨g, 0, none⟩ := by cases hv; rfl
                subst hA
                clear hv
                obtain ⟨y, hy⟩ : ∃ y, xh[k]? = some y := ⟨_, List.getElem?_eq_getElem (by omega)⟩
                have e0 : wr.cell? ⟨g, k, none⟩ = some (.int .i64 y) := (hl.cellAt k (by omega)).trans (Mem.ints_at _ hy)
                have f0 : wr.frozen? ⟨g, k, none⟩ = false := hl.frozenAt k
                have hw := OwS.wh (xh := xh) (g := g) (c := c2) (by rw [hxh]; exact hS) k (-2)
                rw [hxh] at hw
                clear hy
                have HX := Lib.hid (show k + 1 + k1 = nH + 1 ∧ k + 1 ≤ nH ∧ ∃ xl xh xa, xl.length = nM ∧ xh.length = nH ∧ xa.length = nA ∧ OwS w0 (wr.setCell ⟨g, k, none⟩ (.int .i64 (-2))) (.slice A1 nM c1) (.slice (some ⟨g, 0, none⟩) nH c2) (.slice A3 nA c3) (.slice A4 nM c4) (.slice A5 nH c5) (.slice A6 nA c6) xl xh xa M H RA from ⟨by omega, by omega, xl, xh.set k (-2), xa, hxl, by rw [List.length_set]; exact hxh, hxa, hw⟩)
                clear hS hxl hxh hxa hkk hkn hk hl hw
                go_wp2
                go_roundg k1
                case measure => omega
                case rel => exact ⟨k + 1, by go_num, HX⟩
              · have hkn : k = nH := by omega
                have kn : ¬ ((k : Int) < (nH : Int)) := by omega
                have HS := Lib.hid (show ∃ xl xh xa, xl.length = nM ∧ xh.length = nH ∧ xa.length = nA ∧ OwS w0 wr (.slice A1 nM c1) (.slice A2 nH c2) (.slice A3 nA c3) (.slice A4 nM c4) (.slice A5 nH c5) (.slice A6 nA c6) xl xh xa M H RA from ⟨xl, xh, xa, hxl, hxh, hxa, hS⟩)
                clear hS hxl hxh hxa hkk hkn hk
                go_wp2_with fail
                go_loopg [83] (nA + 1) (fun kq vk w' => ∃ k : Nat, vk = .int .i64 (k : Int) ∧ Hid (k + kq = nA + 1 ∧ k ≤ nA ∧ ∃ xl xh xa, xl.length = nM ∧ xh.length = nH ∧ xa.length = nA ∧ OwS w0 w' (.slice A1 nM c1) (.slice A2 nH c2) (.slice A3 nA c3) (.slice A4 nM c4) (.slice A5 nH c5) (.slice A6 nA c6) xl xh xa M H RA))
                case atStart => exact ⟨0, rfl, Lib.hid ⟨by omega, by omega, HS.out⟩⟩
                case round =>
                  obtain ⟨k, rfl, hI⟩ := hrel
                  obtain ⟨hkk, hkn, xl, xh, xa, hxl, hxh, hxa, hS⟩ := hI.out
                  clear hI HS
                  by_cases hk : k < nA
                  · obtain ⟨k1, rfl⟩ : ∃ k1, gk = k1 + 1 := ⟨gk - 1, by omega⟩
                    have k0 : (0 : Int) ≤ (k : Int) := by omega
                    have k1' : (k : Int) < (nA : Int) := by omega
                    have k2' : (nA : Int) ≤ 1000 := by omega
                    have hl := hS.a
                    rw [hxa] at hl
                    obtain ⟨g, cap, hv, _⟩ := hl.form (by omega)
                    have hA : A3 = some ⟨g, 0, none⟩ := by cases hv; rfl
                    subst hA
                    clear hv
                    obtain ⟨⟨y1, y2⟩, hy⟩ : ∃ y, xa[k]? = some y := ⟨_, List.getElem?_eq_getElem (by omega)⟩
                    have hya := arcs2_at xa k y1 y2 hy
                    have e0 : wr.cell? ⟨g, k * 2, none⟩ = some (.int .i64 y1) := (hl.cellAt _ (by omega)).trans hya.1
                    have e1 : wr.cell? ⟨g, k * 2 + 1, none⟩ = some (.int .i64 y2) := (hl.cellAt _ (by omega)).trans hya.2
                    have f0 : wr.frozen? ⟨g, k * 2, none⟩ = false := hl.frozenAt _
                    have f1 : wr.frozen? ⟨g, k * 2 + 1, none⟩ = false := hl.frozenAt _
                    have hw := OwS.wa (xa := xa) (g := g) (c := c3) (by rw [hxa]; exact hS) k (-3, 0)
                    rw [hxa] at hw
                    clear hy hya
                    have HX := Lib.hid (show k + 1 + k1 = nA + 1 ∧ k + 1 ≤ nA ∧ ∃ xl xh xa, xl.length = nM ∧ xh.length = nH ∧ xa.length = nA ∧ OwS w0 ((wr.setCell ⟨g, k * 2, none⟩ (.int .i64 (-3))).setCell ⟨g, k * 2 + 1, none⟩ (.int .i64 0)) (.slice A1 nM c1) (.slice A2 nH c2) (.slice (some ⟨g, 0, none⟩) nA c3) (.slice A4 nM c4) (.slice A5 nH c5) (.slice A6 nA c6) xl xh xa M H RA from ⟨by omega, by omega, xl, xh, xa.set k (-3, 0), hxl, hxh, by rw [List.length_set]; exact hxa, hw⟩)
                    clear hS hxl hxh hxa hkk hkn hk hl hw
                    go_wp2
                    go_roundg k1
                    case measure => omega
                    case rel => exact ⟨k + 1, by go_num, HX⟩
                  · have hkn : k = nA := by omega
                    have kn : ¬ ((k : Int) < (nA : Int)) := by omega
                    have HS := Lib.hid (show ∃ xl xh xa, xl.length = nM ∧ xh.length = nH ∧ xa.length = nA ∧ OwS w0 wr (.slice A1 nM c1) (.slice A2 nH c2) (.slice A3 nA c3) (.slice A4 nM c4) (.slice A5 nH c5) (.slice A6 nA c6) xl xh xa M H RA from ⟨xl, xh, xa, hxl, hxh, hxa, hS⟩)
                    clear hS hxl hxh hxa hkk hkn hk
                    go_wp2_with fail
                    go_loopg [9, 10, 11, 18] 21 (fun kq v9 v10 v11 v18 w' => ∃ (k : Nat) (B1 : Option Addr) (d1 : Nat) (B2 : Option Addr) (d2 : Nat) (B3 : Option Addr) (d3 : Nat), v9 = .slice B1 (nM + k) d1 ∧ v10 = .slice B2 (nH + k) d2 ∧ v11 = .slice B3 (nA + k) d3 ∧ v18 = .int .i64 (k : Int) ∧ Hid (k + kq = 21 ∧ k ≤ 20 ∧ ∃ xl xh xa, xl.length = nM + k ∧ xh.length = nH + k ∧ xa.length = nA + k ∧ (0 < k → xl[nM]? = some 7 ∧ xh[nH]? = some 8 ∧ xa[nA]? = some (0, 9)) ∧ OwS w0 w' (.slice B1 (nM + k) d1) (.slice B2 (nH + k) d2) (.slice B3 (nA + k) d3) (.slice A4 nM c4) (.slice A5 nH c5) (.slice A6 nA c6) xl xh xa M H RA))
                    case atStart =>
                      obtain ⟨xl, xh, xa, e1, e2, e3, hq⟩ := HS.out
                      exact ⟨0, A1, c1, A2, c2, A3, c3, rfl, rfl, rfl, rfl, Lib.hid ⟨by omega, by omega, xl, xh, xa, e1, e2, e3, fun h => absurd h (by omega), hq⟩⟩
                    case round =>
                      obtain ⟨k, B1, d1, B2, d2, B3, d3, rfl, rfl, rfl, rfl, hI⟩ := hrel
                      obtain ⟨hkk, hkn, xl, xh, xa, hxl, hxh, hxa, hlast, hR0⟩ := hI.out
                      clear hI HS
                      by_cases hk : k < 20
                      · obtain ⟨k1, rfl⟩ : ∃ k1, gk = k1 + 1 := ⟨gk - 1, by omega⟩
                        have k0 : (0 : Int) ≤ (k : Int) := by omega
                        have k1' : (k : Int) < 20 := by omega
                        have hl := hR0.l
                        rw [hxl] at hl
                        go_wp2_with ((at_builtin; first | (refine wpList_append_any rfl (.tmp 95) (.tmp 96) 25 rfl w0.heap.size 3 i1 (.int .i64 0) 1 8 Tryz.underlying25 hi1 hz1 hs1 hy1 rfl (by omega) _ _ _ rfl (hl.alloc (.cells #[.int .i64 7] 3)) _ rfl 1 [.int .i64 7] (RdV.lit _ #[.int .i64 7] 3 1 1 1 rfl (by simp [Value.oneCell'])) (by unfold maxLen; omega) (by omega) (by have := hR0.b.size; simp; omega) ?_; intro v1 W1 ho hg hn; obtain ⟨E1, f1, rfl⟩ := Lw.own_slice ho; have hR1 := hR0.al (x := 7) hxl ho hg hn; have hl2 := hR1.h; rw [hxh] at hl2; clear hl ho hg hn hR0) | (refine wpList_append_any rfl (.tmp 98) (.tmp 99) 25 rfl w0.heap.size 3 i1 (.int .i64 0) 1 8 Tryz.underlying25 hi1 hz1 hs1 hy1 rfl (by omega) _ _ _ rfl (hl2.alloc (.cells #[.int .i64 8] 3)) _ rfl 1 [.int .i64 8] (RdV.lit _ #[.int .i64 8] 3 1 1 1 rfl (by simp [Value.oneCell'])) (by unfold maxLen; omega) (by omega) (by have := hR1.b.size; simp; omega) ?_; intro v2 W2 ho hg hn; obtain ⟨E2, f2, rfl⟩ := Lw.own_slice ho; have hR2 := hR1.ah (x := 8) hxh ho hg hn; have hl3 := hR2.a; rw [hxa] at hl3; clear hl2 ho hg hn hR1) | (refine wpList_append_any rfl (.tmp 101) (.tmp 103) 38 rfl w0.heap.size 41 i2 (.agg #[.int .i64 0, .int .i64 0]) 2 16 Tryz.underlying38 hi2 hz2 hs2 hy2 rfl (by omega) _ _ _ rfl (hl3.alloc (.cells #[.int .i64 0, .int .i64 9] 41)) _ rfl 1 [.int .i64 0, .int .i64 9] (RdV.lit _ #[.int .i64 0, .int .i64 9] 41 1 2 1 rfl (by simp [Value.oneCell'])) (by unfold maxLen; omega) (by omega) (by have := hR2.b.size; simp; omega) ?_; intro v3 W3 ho hg hn; obtain ⟨E3, f3, rfl⟩ := Lw.own_slice ho; have hR3 := hR2.aa (x := (0, 9)) hxa ho hg hn; clear hl3 ho hg hn hR2)))
                        have HX := Lib.hid (show k + 1 + k1 = 21 ∧ k + 1 ≤ 20 ∧ ∃ xl xh xa, xl.length = nM + (k + 1) ∧ xh.length = nH + (k + 1) ∧ xa.length = nA + (k + 1) ∧ (0 < (k + 1) → xl[nM]? = some 7 ∧ xh[nH]? = some 8 ∧ xa[nA]? = some (0, 9)) ∧ OwS w0 W3 (.slice E1 (nM + (k + 1)) f1) (.slice E2 (nH + (k + 1)) f2) (.slice E3 (nA + (k + 1)) f3) (.slice A4 nM c4) (.slice A5 nH c5) (.slice A6 nA c6) xl xh xa M H RA from ⟨by omega, by omega, xl ++ [7], xh ++ [8], xa ++ [(0, 9)], by rw [List.length_append, hxl]; rfl, by rw [List.length_append, hxh]; rfl, by rw [List.length_append, hxa]; rfl, fun _ => own_last hxl hxh hxa hlast, hR3⟩)
                        clear hR3 hxl hxh hxa hlast hkk hkn hk
                        go_roundg k1
                        case measure => omega
                        case rel => exact ⟨k + 1, E1, f1, E2, f2, E3, f3, rfl, rfl, rfl, by go_num, HX⟩
                      · have kn : ¬ ((k : Int) < 20) := by omega
                        obtain ⟨hx1, hx2, hx3⟩ := hlast (by omega)
                        obtain ⟨hnM, hnH, hnA⟩ := HNN.out
                        have HR := Lib.hid hR0
                        clear hlast hR0 hk
                        go_wp2_with fail
                        refine (HQ.out.m wr HR.out.b).mono ?_
                        rintro e7 w7 ⟨u7, rfl, o7, b7⟩
                        obtain ⟨A7, c7, rfl⟩ := Lw.own_slice o7
                        have HR7 := Lib.hid (HR.out.below b7)
                        have HC := Lib.hid (same_own hnM HR7.out.m o7 HQ.out.lm)
                        clear o7 b7 HR
                        go_wp2_with fail
                        refine HC.out.mono ?_
                        rintro e8 w8 ⟨rfl, b8⟩
                        have HR8 := Lib.hid (HR7.out.below b8)
                        clear b8 HC HR7
                        go_wp2_with fail
                        refine (HQ.out.h w8 HR8.out.b).mono ?_
                        rintro e9 w9 ⟨u9, rfl, o9, b9⟩
                        obtain ⟨A9, c9, rfl⟩ := Lw.own_slice o9
                        have HR9 := Lib.hid (HR8.out.below b9)
                        have HC := Lib.hid (same_own hnH HR9.out.i o9 HQ.out.lh)
                        clear o9 b9 HR8
                        go_wp2_with fail
                        refine HC.out.mono ?_
                        rintro e10 w10 ⟨rfl, b10⟩
                        have HR10 := Lib.hid (HR9.out.below b10)
                        clear b10 HC HR9
                        go_wp2_with fail
                        refine (HQ.out.a w10 HR10.out.b).mono ?_
                        rintro e11 w11 ⟨u11, rfl, o11, b11, hl11⟩
                        obtain ⟨A11, c11, rfl⟩ := Lw.own_slice o11
                        have HR11 := Lib.hid (HR10.out.below b11)
                        have HC := Lib.hid (same_ownA hnA HR11.out.r o11 hl11)
                        clear o11 b11 HR10 hl11
                        go_wp2_with fail
                        refine HC.out.mono ?_
                        rintro e12 w12 ⟨rfl, b12⟩
                        have HR12 := Lib.hid (HR11.out.below b12)
                        clear b12 HC HR11
                        have hat := HW.out.1.below HR12.out.b HW.out.1.lt
                        have q0 := hat.cell 0 rfl
                        have q1 := hat.cell 1 rfl
                        have q2 := hat.cell 2 rfl
                        have q3 := hat.cell 3 rfl
                        clear hat
                        go_wp2_with fail
                        refine (HQ.out.w w12 HR12.out.b).mono ?_
                        rintro e13 w13 ⟨rfl, b13⟩
                        have hR := HR12.out.below b13
                        clear b13 HR12 q0 q1 q2 q3
                        have hl := hR.l
                        have hh := hR.h
                        have ha := hR.a
                        rw [hxl] at hl
                        rw [hxh] at hh
                        rw [hxa] at ha
                        obtain ⟨g1, cap1, hv1, _⟩ := hl.form (by omega)
                        have hB1 : B1 = some ⟨g1, 0, none⟩ := by cases hv1; rfl
                        obtain ⟨g2, cap2, hv2, _⟩ := hh.form (by omega)
                        have hB2 : B2 = some ⟨g2, 0, none⟩ := by cases hv2; rfl
                        obtain ⟨g3, cap3, hv3, _⟩ := ha.form (by omega)
                        have hB3 : B3 = some ⟨g3, 0, none⟩ := by cases hv3; rfl
                        subst hB1 hB2 hB3
                        clear hv1 hv2 hv3
                        have e1 : w13.cell? ⟨g1, nM, none⟩ = some (.int .i64 7) := (hl.cellAt nM (by omega)).trans (Mem.ints_at _ hx1)
                        have e2 : w13.cell? ⟨g2, nH, none⟩ = some (.int .i64 8) := (hh.cellAt nH (by omega)).trans (Mem.ints_at _ hx2)
                        have e3 : w13.cell? ⟨g3, nA * 2 + 1, none⟩ = some (.int .i64 9) := (ha.cellAt (nA * 2 + 1) (by omega)).trans (arcs2_at xa nA 0 9 hx3).2
                        have hend := HW.out.2.trans (hR.b.mono HW.out.2.size)
                        have HE := Lib.hid hend
                        clear hl hh ha hR hend hx1 hx2 hx3 hxl hxh hxa
                        have a0 : (0 : Int) ≤ (nM : Int) := by omega
                        have a1 : (nM : Int) < ((nM + k : Nat) : Int) := by omega
                        have a2 : (nM : Int) < (nM : Int) + (k : Int) := by omega
                        have b0 : (0 : Int) ≤ (nH : Int) := by omega
                        have b1 : (nH : Int) < ((nH + k : Nat) : Int) := by omega
                        have b2 : (nH : Int) < (nH : Int) + (k : Int) := by omega
                        have c0 : (0 : Int) ≤ (nA : Int) := by omega
                        have c1 : (nA : Int) < ((nA + k : Nat) : Int) := by omega
                        have c2 : (nA : Int) < (nA : Int) + (k : Int) := by omega
                        go_wp2
                        go_ret
                        exact ⟨rfl, HE.out⟩
end Go.Proofs.YthomnpgpbhpojaaGreat.Cd
