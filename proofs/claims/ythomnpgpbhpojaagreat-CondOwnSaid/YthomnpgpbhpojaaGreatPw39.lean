/- whole: is all that is told the document's? -/
import Derived.Test.YthomnpgpbhpojaaGreatPw5
import Derived.Test.YthomnpgpbhpojaaGreatPw38
import Derived.Test.YthomnpgpbhpojaaGreatPw35
namespace Go.Proofs.YthomnpgpbhpojaaGreat.Cd
open Go Go.RowKit Go.MapKept Go.Proofs.YthomnpgpbhpojaaGreat.Mem Go.Proofs.YthomnpgpbhpojaaGreat.Sl Go.Proofs.YthomnpgpbhpojaaGreat.Scc Go.Proofs.YthomnpgpbhpojaaGreat.Tj Go.Proofs.YthomnpgpbhpojaaGreat.Lw Go.Proofs.YthomnpgpbhpojaaGreat.Pt Go.Proofs.YthomnpgpbhpojaaGreatW.PrintWords Go.Proofs.YthomnpgpbhpojaaGreatW.PrintLast
attribute [local go_sem ↓] Go.wp_at_zero Go.wp_at_succ
set_option linter.unusedSimpArgs false
set_option linter.unusedVariables false

section
variable {w w' W W' : World} {gc : Nat} {lk : Int} {arcs : Int → Option (Int × Int)} {cls : Int → Option Nat} {row : Nat → List Int} {cb : Nat → Prop} {vs : List Int} {es : List (Int × Int × Int)} {G : Gp} {ls : List (List Int)}
theorem Pre.heads (h : Pre w gc lk arcs cls row cb G vs es) (hG : Grp vs (Ra arcs) ls) (hR : Rise ls) : Calls Tryz.prog 10 #[.pointer (some ⟨gc, 0, none⟩)] w fun e w' => ∃ u, e = .returned u ∧ w'.ownsRow w.heap.size 3 1 u ls.length (ints ((List.range ls.length).map (hdL ls))) ∧ Below w.heap.size w w' := by
  have hlv := h.lv
  have hro := h.c.rowOk
  obtain ⟨ga, go, gi, gp, gm, ob, ib, val, tg, pb, hc⟩ := h.c
  refine (cHeads hc vs (fun x hx => (h.s.cv x).1 hx) (by omega)).mono fun e w' ⟨u, l, he, ho, hb, hup, hm⟩ => ⟨u, he, ?_, hb⟩
  have := h.s.heads_ref hro hG hR hup hm
  subst this
  have hlen : ((List.range ls.length).map (hdL ls)).length = ls.length := by simp
  rw [hlen] at ho
  exact ho
theorem Pre.carcs (h : Pre w gc lk arcs cls row cb G vs es) (hG : Grp vs (Ra arcs) ls) (hR : Rise ls) : Calls Tryz.prog 11 #[.pointer (some ⟨gc, 0, none⟩)] w fun e w' => ∃ u, e = .returned u ∧ w'.ownsRow w.heap.size 41 2 u (refA ls es ls.length).length (arcs2 (refA ls es ls.length)) ∧ Below w.heap.size w w' ∧ (refA ls es ls.length).length ≤ 1000 := by
  have hro := h.c.rowOk
  have hrl : ∀ v b, cls v = some b → (row b).length ≤ 500000 := fun v b hv => Nat.le_trans (h.rowle v b hv) (by omega)
  obtain ⟨ga, go, gi, gp, gm, ob, ib, val, tg, pb, hc⟩ := h.c
  refine (cArcs hc hrl).mono fun e w' ⟨u, l, he, ho, hb, hup, hll, hm⟩ => ⟨u, he, ?_, hb, ?_⟩
  · rw [← h.s.arcs_ref hro hG hR hup hm]; exact ho
  · rw [← h.s.arcs_ref hro hG hR hup hm]; exact hll
theorem Pre.refArcs (h : Pre w gc lk arcs cls row cb G vs es) (hG : Grp vs (Ra arcs) ls) (hR : Rise ls) : Calls Tryz.prog 27 #[G.v] w fun e w' => ∃ u, e = .returned u ∧ w'.ownsRow w.heap.size 41 2 u (refA ls es ls.length).length (arcs2 (refA ls es ls.length)) ∧ Below w.heap.size w w' := by
  obtain ⟨ls', hG', hR', hc⟩ := refArcs_calls h
  rw [h.s.ref_ref h.c.rowOk hG hR hG' hR'] at hc
  exact hc
theorem hdL_at (hG : Grp vs (Ra arcs) ls) {i : Nat} (hi : i < ls.length) {A : Option Addr} (hl : RdL w A ls) : ∃ ba bi ni ci, A = some ⟨ba, 0, none⟩ ∧ w.cell? ⟨ba, i, none⟩ = some (.slice (some ⟨bi, 0, none⟩) ni ci) ∧ 0 < ni ∧ w.cell? ⟨bi, 0, none⟩ = some (.int .i64 (hdL ls i)) := by
  obtain ⟨l, hil⟩ : ∃ l, ls[i]? = some l := ⟨_, List.getElem?_eq_getElem hi⟩
  obtain ⟨a, r, rfl⟩ := List.exists_cons_of_ne_nil (hG.ne l (List.mem_of_getElem? hil))
  obtain ⟨ba, B, c, hA, p0, rd⟩ := hl i _ hil
  obtain ⟨bi, rfl, p1⟩ := rd 0 a rfl
  have hd : hdL ls i = a := by unfold hdL; rw [List.getD_eq_getElem?_getD, hil]; rfl
  exact ⟨ba, bi, _, c, hA, p0, by simp, by rw [hd]; exact p1⟩
end
def tb8_11.T11 : Bool × List (List Nat × List Nat) := (true, [([], []), ([], []), ([], []), ([], []), ([], []), ([4], [4]), ([5], [5]), ([6], [6]), ([0, 1, 2, 3, 7], [0, 1, 2, 3, 7]), ([8], [8])])
def tb8_11.B11 : List Nat := [0, 0, 0, 0, 0, 16, 48, 112, 255, 511]
theorem tb8_11.tab11 : rtab .any (opsOf Tryz.f8 11) = tb8_11.T11 := by kernel_rfl
theorem tb8_11.bits11 : waitsOk tb8_11.T11.2 tb8_11.B11 = true := by kernel_rfl
def tb8_14.T14 : Bool × List (List Nat × List Nat) := (true, [([], []), ([0], [0]), ([], []), ([1, 2, 1], [1, 2]), ([3, 3], [3]), ([4], [4]), ([5, 4, 4], [4, 5]), ([4], [4]), ([7, 6, 4], [4, 7]), ([6, 8, 8, 4], [4, 6, 8]), ([4, 9], [4, 9]), ([10, 9], [10]), ([11], [11]), ([11], [11]), ([11], [11]), ([12, 13, 14, 11, 11], [11, 12, 13, 14]), ([11, 15], [11, 15]), ([16, 15, 0, 1, 2, 3, 4, 5, 6, 7, 8, 9, 10, 11, 12, 13, 14, 15, 16], [16])])
def tb8_14.B14 : List Nat := [0, 1, 0, 7, 15, 31, 63, 31, 255, 511, 1023, 2047, 4095, 4095, 4095, 32767, 65535, 131071]
theorem tb8_14.tab14 : rtab .any (opsOf Tryz.f8 14) = tb8_14.T14 := by kernel_rfl
theorem tb8_14.bits14 : waitsOk tb8_14.T14.2 tb8_14.B14 = true := by kernel_rfl
set_option maxHeartbeats 8000000 in
set_option maxRecDepth 100000 in
theorem Pre.whole {w : World} {gc : Nat} {lk : Int} {arcs : Int → Option (Int × Int)} {cls : Int → Option Nat} {row : Nat → List Int} {cb : Nat → Prop} {vs : List Int} {es : List (Int × Int × Int)} {G : Gp} (h : Pre w gc lk arcs cls row cb G vs es) :
    Calls Tryz.prog 8 #[.pointer (some ⟨gc, 0, none⟩), G.v] w fun e w' => e = .returned (.bool true) ∧ Below w.heap.size w w' := by
  obtain ⟨i1, hi1, hz1, hs1, hy1⟩ := info_parts Lw.info_int
  obtain ⟨ls, hG, hR, hO⟩ := h.of2
  have hln : ls.length ≤ vs.length := hG.len
  have hlv := h.lv
  have HH := Lib.hid (fun (W : World) (hb : Below w.heap.size w W) => (h.below hb).heads hG hR)
  have HAr := Lib.hid (fun (W : World) (hb : Below w.heap.size w W) => (h.below hb).carcs hG hR)
  have HRf := Lib.hid (fun (W : World) (hb : Below w.heap.size w W) => (h.below hb).refArcs hG hR)
  have HAk := Lib.hid (fun (W : World) (A : Option Addr) (c : Nat) (hl : RdL W A ls) (hb : Below w.heap.size w W) (u v : Int) => (h.below hb).asks (c := c) hl hG u v)
  have HGr := Lib.hid hG
  have hnv : vs.length = G.n := h.g.nv
  have HV := Lib.hid h.g.rv
  obtain ⟨RA, hRA⟩ : ∃ l, refA ls es ls.length = l := ⟨_, rfl⟩
  rw [hRA] at HAr HRf
  obtain ⟨LL, hLL⟩ : ∃ L, ls.length = L := ⟨_, rfl⟩
  rw [hLL] at hO HH HAk hln
  obtain ⟨Hd, hHd⟩ : ∃ l, (List.range LL).map (hdL ls) = l := ⟨_, rfl⟩
  have HHd := Lib.hid hHd
  rw [hHd] at HH
  have HO := Lib.hid hO
  have HL := Lib.hid hLL
  clear h hO hG hR hRA hLL hHd
  obtain ⟨gA, gn, gcc, gE, gm, gce, ggw⟩ := G
  have hnv : vs.length = gn := hnv
  unfold Gp.v gV at HO HRf HAk ⊢
  go_enter Tryz.func8, Tryz.ntmps8
  go_wp2_with fail
  have hb1 : Below w.heap.size w (w.alloc (.cells #[.slice gA gn gcc, .slice gE gm gce, .int .i64 0, .int .i64 ggw] 28)) := (Below.refl _ _).alloc (Nat.le_refl _) _
  refine (HO.out _ hb1).mono ?_
  clear HO
  rintro e0 wb ⟨A, cA, rfl, hrl, hb2⟩
  have hat : At wb w.heap.size [.slice gA gn gcc, .slice gE gm gce, .int .i64 0, .int .i64 ggw] 28 := (At.made (w := w) (a := #[.slice gA gn gcc, .slice gE gm gce, .int .i64 0, .int .i64 ggw]) rfl rfl).below hb2 (by simp)
  obtain ⟨gB, hgB⟩ : ∃ gB, w.heap.size = gB := ⟨_, rfl⟩
  have hbw := hb1.trans (hb2.mono (by simp))
  rw [hgB] at hat
  have HB := Lib.hid (And.intro hat (And.intro hrl hbw))
  rw [hgB]
  clear hat hrl hb1 hb2 hbw
  have hL4 : LL ≤ 400 := by omega
  go_wp2_with fail
  go_loopg [6, 15] (LL + 1) (fun kq v6 v15 w' => ∃ i : Nat, v15 = .int .i64 (i : Int) ∧ Hid (i + kq = LL + 1 ∧ i ≤ LL ∧ w'.ownsRow wb.heap.size 3 1 v6 i (ints ((List.range i).map (hdL ls))) ∧ Below wb.heap.size wb w'))
  case atStart => exact ⟨0, rfl, Lib.hid ⟨by omega, by omega, World.ownsRow_nil _ _ _ _, Below.refl _ _⟩⟩
  case round =>
    obtain ⟨i, rfl, hI⟩ := hrel
    obtain ⟨hik, hiL, ho, hb⟩ := hI.out
    clear hI
    by_cases hi : i < LL
    · obtain ⟨k1, rfl⟩ : ∃ k1, gk = k1 + 1 := ⟨gk - 1, by omega⟩
      have i0 : (0 : Int) ≤ (i : Int) := by omega
      have i1' : (i : Int) < (LL : Int) := by omega
      have i2 : (LL : Int) ≤ 400 := by omega
      obtain ⟨ba, bi, ni, ci, hA, p0, npos, p1⟩ := hdL_at HGr.out (show i < ls.length by rw [HL.out]; exact hi) (HB.out.2.1.below hb)
      subst hA
      obtain ⟨x, hx⟩ : ∃ x, hdL ls i = x := ⟨_, rfl⟩
      rw [hx] at p1
      have HN := Lib.hid (show (List.range (i + 1)).map (hdL ls) = (List.range i).map (hdL ls) ++ [x] from by rw [List.range_succ, List.map_append, ← hx]; rfl)
      have HOi := Lib.hid (And.intro ho hb)
      have HKi := Lib.hid hik
      clear ho hb hik hiL hx
      go_wp2_with ((at_builtin; refine wpList_append_any rfl (.tmp 19) (.tmp 23) 25 rfl wb.heap.size 3 i1 (.int .i64 0) 1 8 Tryz.underlying25 hi1 hz1 hs1 hy1 rfl (by omega) _ _ _ rfl (HOi.out.1.alloc (.cells #[.int .i64 x] 3)) _ rfl 1 [.int .i64 x] (RdV.lit _ #[.int .i64 x] 3 1 1 1 rfl (by simp [Value.oneCell'])) (by unfold maxLen; omega) (by omega) (by have := HOi.out.2.size; simp; omega) ?_; intro v7 w7 ho hg hn; have hb7 := (HOi.out.2.alloc HOi.out.2.size (.cells #[.int .i64 x] 3)).grown hg (by have := HOi.out.2.size; simp; omega) (fun k hk => (HOi.out.1.lt k hk).1); have H7 := Lib.hid (And.intro ho hb7); clear ho hg hn hb7))
      go_roundg k1
      case measure => omega
      case rel => exact ⟨i + 1, by go_num, Lib.hid ⟨by have := HKi.out; omega, by omega, by rw [HN.out, ints_app]; exact H7.out.1, H7.out.2⟩⟩
    · obtain rfl : i = LL := by omega
      have in0 : ¬ ((i : Int) < (i : Int)) := by omega
      obtain ⟨A6, c6, rfl⟩ := Lw.own_slice ho
      rw [HHd.out] at ho
      have hh : wr.ownsRow wb.heap.size 3 1 (.slice A6 i c6) i (ints Hd) ∧ Below wb.heap.size wb wr := ⟨ho, hb⟩
      clear ho hb hik hiL hi
      refine gen_world (fun W => W.ownsRow wb.heap.size 3 1 (.slice A6 i c6) i (ints Hd) ∧ Below wb.heap.size wb W) hh ?_
      clear hh
      rintro wl hh
      have HO6 := Lib.hid hh
      clear hh
      have q0 := (HB.out.1.below HO6.out.2 HB.out.1.lt).cell 0 rfl
      have HBl := Lib.hid (show Below gB w wl from hgB ▸ (HB.out.2.2.trans (HO6.out.2.mono HB.out.2.2.size)))
      go_wp2_with fail
      clear q0
      go_loopg [29] (gn + 1) (fun kq v29 w' => ∃ t : Nat, v29 = .int .i64 (t : Int) ∧ Hid (t + kq = gn + 1 ∧ t ≤ gn ∧ Below wl.heap.size wl w'))
      case atStart => exact ⟨0, rfl, Lib.hid ⟨by omega, by omega, Below.refl _ _⟩⟩
      case round =>
        obtain ⟨t, rfl, hI⟩ := hrel
        obtain ⟨htk, htn, hbt⟩ := hI.out
        clear hI
        have hbw : Below gB w wr := by
          have := HBl.out
          rw [← hgB] at this ⊢
          exact this.trans (hbt.mono this.size)
        have hatr : At wr gB [.slice gA gn gcc, .slice gE gm gce, .int .i64 0, .int .i64 ggw] 28 := (HB.out.1.below HO6.out.2 HB.out.1.lt).below hbt (Nat.lt_of_lt_of_le HB.out.1.lt HO6.out.2.size)
        have hbw2 : Below w.heap.size w wr := by rw [hgB]; exact hbw
        have hvr := own_below HV.out hbw2
        have hrdr := (HB.out.2.1.below HO6.out.2).below hbt
        have HAk2 := Lib.hid (fun (W : World) (hW : Below wr.heap.size wr W) (u v : Int) => HAk.out W A cA (hrdr.below hW) (hbw2.trans (hW.mono hbw2.size)) u v)
        by_cases ht : t < gn
        · obtain ⟨k2, rfl⟩ : ∃ k2, gk = k2 + 1 := ⟨gk - 1, by omega⟩
          obtain ⟨xv, hx⟩ : ∃ x, vs[t]? = some x := ⟨_, List.getElem?_eq_getElem (by omega)⟩
          obtain ⟨v0, hx0⟩ : ∃ x, vs[0]? = some x := ⟨_, List.getElem?_eq_getElem (by omega)⟩
          obtain ⟨gv, hgv, cx⟩ := (RdI.of_own hvr).1 t xv hx
          obtain ⟨gv', hgv', c0⟩ := (RdI.of_own hvr).1 0 v0 hx0
          have hgA : gA = some ⟨gv, 0, none⟩ := hgv
          subst hgA
          cases hgv'
          have t0 : (0 : Int) ≤ (t : Int) := by omega
          have t1 : (t : Int) < (gn : Int) := by omega
          have t2 : (gn : Int) ≤ 400 := by omega
          have g0 : 0 < gn := by omega
          have HAt := Lib.hid (And.intro hatr (And.intro hbt htk))
          have HC0 := Lib.hid c0
          clear hatr hbt hvr hrdr hbw hbw2 hx hx0 htk htn ht hgv c0
          go_upto_region 11 with (fail)
          obtain ⟨wd, hwd⟩ : ∃ wd, wr.drew = wd := ⟨_, rfl⟩
          have hatd : At wd gB [.slice (some ⟨gv, 0, none⟩) gn gcc, .slice gE gm gce, .int .i64 0, .int .i64 ggw] 28 := hwd ▸ HAt.out.1.drew
          have q0 := hatd.cell 0 rfl
          have q1 := hatd.cell 1 rfl
          have q2 := hatd.cell 2 rfl
          have q3 := hatd.cell 3 rfl
          have q4 : wd.cell? ⟨gv, 0, none⟩ = some (.int .i64 v0) := hwd ▸ HC0.out
          have HD := (show Below wr.heap.size wr wd from hwd ▸ (Below.refl _ _).drew)
          have HK := Lib.hid (HAk2.out)
          clear hatd cx
          refine start_ (n := 10) (S := fun w' => w'.cell? ⟨gB, 0, none⟩ = some (.slice (some ⟨gv, 0, none⟩) gn gcc) ∧ w'.cell? ⟨gB, 1, none⟩ = some (.slice gE gm gce) ∧ w'.cell? ⟨gB, 2, none⟩ = some (.int .i64 0) ∧ w'.cell? ⟨gB, 3, none⟩ = some (.int .i64 ggw) ∧ w'.cell? ⟨gv, 0, none⟩ = some (.int .i64 v0)) (ds := [8]) (bA 10 0) (by kernel_rfl) rfl rfl ⟨(by rw [hwd]; exact q0), (by rw [hwd]; exact q1), (by rw [hwd]; exact q2), (by rw [hwd]; exact q3), (by rw [hwd]; exact q4)⟩ (fun hHeld => ?_)
          rw [hwd] at hHeld ⊢
          refine with_tabW tb8_11.tab11 tb8_11.bits11 (fun HT_ HW_ => ?_)
          refine pw_ 0 33 (bA 10 1) HT_.out ?_
          refine pw_ 2 35 (bA 10 5) HT_.out ?_
          refine pw_ 3 36 (bA 10 13) HT_.out ?_
          refine pw_ 4 37 (bA 10 29) HT_.out ?_
          refine tw_ 1 34 (bA 10 31) HT_.out HW_.out hHeld (hv := by rintro w' ⟨s0, s1, s2, s3, s4⟩; go_simp; with_reducible rfl) (h := ?_)
          refine tw_ 5 38 (bA 10 63) HT_.out HW_.out hHeld (hv := by rintro w' ⟨s0, s1, s2, s3, s4⟩; go_simp; with_reducible rfl) (h := ?_)
          refine pw_ 6 39 (bA 10 127) HT_.out ?_
          refine tw_ 7 40 (bA 10 255) HT_.out HW_.out hHeld (hv := by rintro w' ⟨s0, s1, s2, s3, s4⟩; go_simp; with_reducible rfl) (h := ?_)
          refine last_ (i := 8) (N := some 41) (bA 10 511) rfl rfl (one_of HT_.out (by kernel_rfl)) (by decide) (fun K hK => ?_)
          refine gw_ Tryz.func25 #[.pointer (some ⟨gc, 0, none⟩), .agg #[(.slice (some ⟨gv, 0, none⟩) gn gcc), (.slice gE gm gce), (.int .i64 0), (.int .i64 ggw)], .slice A i cA, .int .i64 xv, .int .i64 v0] ?_
          with_reducible refine ((HK.out wd HD xv v0)).mono ?_
          rintro ea wa ⟨rfl, hba⟩
          refine ⟨_, rfl, ?_⟩
          refine hK.out _ _ ?_; clear hK K
          refine norm_ (a' := ?_) ?_ ?_
          rotate_left
          · show Act.put _ (some 41) _ = _
            simp only [Act.put, pA, pB, pC, pD, pE]; rfl
          refine pw_ 9 42 (bA 10 1023) HT_.out ?_
          refine done_ (done_of HT_.out (by kernel_rfl)) ?_
          clear hHeld HT_ HW_
          have HX := Lib.hid (show t + 1 + k2 = gn + 1 ∧ t + 1 ≤ gn ∧ Below wl.heap.size wl wa from by
            have hb2 := HAt.out.2.1
            exact ⟨by have := HAt.out.2.2; omega, by omega, (hb2.trans (HD.mono hb2.size)).trans (hba.mono (Nat.le_trans hb2.size HD.size))⟩)
          clear q0 q1 q2 q3 q4 hwd HD hba HAt HK HAk2 HC0
          go_wp2
          go_roundg k2
          case measure => omega
          case rel => exact ⟨t + 1, by go_num, HX⟩
        · obtain rfl : t = gn := by omega
          have tn : ¬ ((t : Int) < (t : Int)) := by omega
          have HAt := Lib.hid (And.intro hatr (And.intro hbt hbw2))
          have H6 := Lib.hid (And.intro (own_below HO6.out.1 hbt) (HHd.out))
          clear hatr hbt hvr hrdr hbw hbw2 htk htn ht
          go_upto_region 14 with (fail)
          obtain ⟨wd, hwd⟩ : ∃ wd, wr.drew = wd := ⟨_, rfl⟩
          have hatd : At wd gB [.slice gA t gcc, .slice gE gm gce, .int .i64 0, .int .i64 ggw] 28 := hwd ▸ HAt.out.1.drew
          have q0 := hatd.cell 0 rfl
          have q1 := hatd.cell 1 rfl
          have q2 := hatd.cell 2 rfl
          have q3 := hatd.cell 3 rfl
          have HD := Lib.hid (show Below w.heap.size w wd from hwd ▸ HAt.out.2.2.drew)
          have HDr := Lib.hid (show Below wr.heap.size wr wd from hwd ▸ (Below.refl _ _).drew)
          have hHl : Hd.length = i := by rw [← HHd.out]; simp
          have HSI := Lib.hid (fun (wd w1 : World) (hd : Below wr.heap.size wr wd) (hb1 : Below wd.heap.size wd w1) (A1 : Option Addr) (c1 : Nat) (ho1 : w1.ownsRow wd.heap.size 3 1 (.slice A1 i c1) i (ints Hd)) => show Calls Tryz.prog 12 #[.slice A1 i c1, .slice A6 i c6] w1 fun e W' => e = .returned (.bool true) ∧ Below w1.heap.size w1 W' from by
            have := sameInts_calls w1 A1 A6 c1 c6 Hd Hd (RdI.of_own ho1).1 (RdI.of_own (own_below (own_below H6.out.1 hd) hb1)).1 (by omega)
            rw [hHl] at this
            exact this.mono fun e W' ⟨he, q, hw⟩ => ⟨by rw [he]; simp, hw ▸ Below.drN (Below.refl _ _) q⟩)
          clear hatd
          refine start_ (n := 18) (S := fun w' => w'.cell? ⟨gB, 0, none⟩ = some (.slice gA t gcc) ∧ w'.cell? ⟨gB, 1, none⟩ = some (.slice gE gm gce) ∧ w'.cell? ⟨gB, 2, none⟩ = some (.int .i64 0) ∧ w'.cell? ⟨gB, 3, none⟩ = some (.int .i64 ggw)) (ds := [15]) (bA 18 0) (by kernel_rfl) rfl rfl ⟨(by rw [hwd]; exact q0), (by rw [hwd]; exact q1), (by rw [hwd]; exact q2), (by rw [hwd]; exact q3)⟩ (fun hHeld => ?_)
          rw [hwd] at hHeld ⊢
          refine with_tabW tb8_14.tab14 tb8_14.bits14 (fun HT_ HW_ => ?_)
          refine pw_ 0 44 (bA 18 1) HT_.out ?_
          refine pw_ 2 46 (bA 18 5) HT_.out ?_
          refine one_ (i := 1) (N := some 45) (bA 18 7) rfl rfl (one_of HT_.out (by kernel_rfl)) (by decide) (fun K hK => ?_)
          refine gw_ Tryz.func10 #[.pointer (some ⟨gc, 0, none⟩)] ?_
          with_reducible refine ((HH.out wd HD.out)).mono ?_
          rintro e1 w1 ⟨u1, rfl, ho1, hb1⟩
          refine ⟨_, rfl, ?_⟩
          obtain ⟨A1, c1, rfl⟩ := Lw.own_slice ho1
          have HC := Lib.hid (HSI.out wd w1 HDr.out hb1 A1 c1 ho1)
          have HB1 := Lib.hid (HD.out.trans (hb1.mono HD.out.size))
          have HR1 := Lib.hid (HDr.out.trans (hb1.mono HDr.out.size))
          refine hK.out _ _ ⟨(keep_at hb1 q0), (keep_at hb1 q1), (keep_at hb1 q2), (keep_at hb1 q3)⟩ (fun hHeld => ?_)
          clear hK K
          refine norm_ (a' := ?_) ?_ ?_
          rotate_left
          · show Act.put _ (some 45) _ = _
            simp only [Act.put, pA, pB, pC, pD, pE]; rfl
          refine one_ (i := 3) (N := some 47) (bA 18 15) rfl rfl (one_of HT_.out (by kernel_rfl)) (by decide) (fun K hK => ?_)
          refine gw_ Tryz.func12 #[.slice A1 i c1, .slice A6 i c6] ?_
          with_reducible refine (HC.out).mono ?_
          rintro e2 w2 ⟨rfl, hb2⟩
          refine ⟨_, rfl, ?_⟩
          have HB2 := Lib.hid (HB1.out.trans (hb2.mono HB1.out.size))
          have HR2 := Lib.hid (HR1.out.trans (hb2.mono HR1.out.size))
          refine hK.out _ _ ⟨(keep_at hb2 (keep_at hb1 q0)), (keep_at hb2 (keep_at hb1 q1)), (keep_at hb2 (keep_at hb1 q2)), (keep_at hb2 (keep_at hb1 q3))⟩ (fun hHeld => ?_)
          clear hK K
          refine norm_ (a' := ?_) ?_ ?_
          rotate_left
          · show Act.put _ (some 47) _ = _
            simp only [Act.put, pA, pB, pC, pD, pE]; rfl
          refine pw_ 4 48 (bA 18 31) HT_.out ?_
          refine pw_ 5 49 (bA 18 63) HT_.out ?_
          refine tw_ 7 51 (bA 18 191) HT_.out HW_.out hHeld (hv := by rintro w' ⟨s0, s1, s2, s3⟩; go_simp; with_reducible rfl) (h := ?_)
          refine one_ (i := 6) (N := some 50) (bA 18 255) rfl rfl (one_of HT_.out (by kernel_rfl)) (by decide) (fun K hK => ?_)
          refine gw_ Tryz.func11 #[.pointer (some ⟨gc, 0, none⟩)] ?_
          with_reducible refine ((HAr.out w2 HB2.out)).mono ?_
          rintro e3 w3 ⟨u3, rfl, ho3, hb3, hl3⟩
          refine ⟨_, rfl, ?_⟩
          obtain ⟨A3, c3, rfl⟩ := Lw.own_slice ho3
          have HB3 := Lib.hid (HB2.out.trans (hb3.mono HB2.out.size))
          have HR3 := Lib.hid (HR2.out.trans (hb3.mono HR2.out.size))
          have HO3 := Lib.hid (And.intro ho3 hl3)
          clear ho3 hl3
          refine hK.out _ _ ⟨(keep_at hb3 (keep_at hb2 (keep_at hb1 q0))), (keep_at hb3 (keep_at hb2 (keep_at hb1 q1))), (keep_at hb3 (keep_at hb2 (keep_at hb1 q2))), (keep_at hb3 (keep_at hb2 (keep_at hb1 q3)))⟩ (fun hHeld => ?_)
          clear hK K
          refine norm_ (a' := ?_) ?_ ?_
          rotate_left
          · show Act.put _ (some 50) _ = _
            simp only [Act.put, pA, pB, pC, pD, pE]; rfl
          refine one_ (i := 8) (N := some 52) (bA 18 511) rfl rfl (one_of HT_.out (by kernel_rfl)) (by decide) (fun K hK => ?_)
          refine gw_ Tryz.func27 #[.agg #[(.slice gA t gcc), (.slice gE gm gce), (.int .i64 0), (.int .i64 ggw)]] ?_
          with_reducible refine ((HRf.out w3 HB3.out)).mono ?_
          rintro e4 w4 ⟨u4, rfl, ho4, hb4⟩
          refine ⟨_, rfl, ?_⟩
          obtain ⟨A4, c4, rfl⟩ := Lw.own_slice ho4
          have HB4 := Lib.hid (HB3.out.trans (hb4.mono HB3.out.size))
          have HR4 := Lib.hid (HR3.out.trans (hb4.mono HR3.out.size))
          have HSA := Lib.hid (sameArcs_calls w4 A3 A4 c3 c4 RA (RdA.of_own (own_below HO3.out.1 hb4)).1 (RdA.of_own ho4).1 HO3.out.2)
          clear ho4
          refine hK.out _ _ ⟨(keep_at hb4 (keep_at hb3 (keep_at hb2 (keep_at hb1 q0)))), (keep_at hb4 (keep_at hb3 (keep_at hb2 (keep_at hb1 q1)))), (keep_at hb4 (keep_at hb3 (keep_at hb2 (keep_at hb1 q2)))), (keep_at hb4 (keep_at hb3 (keep_at hb2 (keep_at hb1 q3))))⟩ (fun hHeld => ?_)
          clear hK K
          refine norm_ (a' := ?_) ?_ ?_
          rotate_left
          · show Act.put _ (some 52) _ = _
            simp only [Act.put, pA, pB, pC, pD, pE]; rfl
          refine one_ (i := 9) (N := some 53) (bA 18 1023) rfl rfl (one_of HT_.out (by kernel_rfl)) (by decide) (fun K hK => ?_)
          refine gw_ Tryz.func13 #[.slice A3 RA.length c3, .slice A4 RA.length c4] ?_
          with_reducible refine (HSA.out).mono ?_
          rintro e5 w5 ⟨rfl, hb5⟩
          refine ⟨_, rfl, ?_⟩
          have HB5 := Lib.hid (HB4.out.trans (hb5.mono HB4.out.size))
          have HR5 := Lib.hid (HR4.out.trans (hb5.mono HR4.out.size))
          refine hK.out _ _ ⟨(keep_at hb5 (keep_at hb4 (keep_at hb3 (keep_at hb2 (keep_at hb1 q0))))), (keep_at hb5 (keep_at hb4 (keep_at hb3 (keep_at hb2 (keep_at hb1 q1))))), (keep_at hb5 (keep_at hb4 (keep_at hb3 (keep_at hb2 (keep_at hb1 q2))))), (keep_at hb5 (keep_at hb4 (keep_at hb3 (keep_at hb2 (keep_at hb1 q3)))))⟩ (fun hHeld => ?_)
          clear hK K
          refine norm_ (a' := ?_) ?_ ?_
          rotate_left
          · show Act.put _ (some 53) _ = _
            simp only [Act.put, pA, pB, pC, pD, pE]; rfl
          refine pw_ 10 54 (bA 18 2047) HT_.out ?_
          refine pw_ 11 55 (bA 18 4095) HT_.out ?_
          refine pw_ 12 56 (bA 18 8191) HT_.out ?_
          refine pw_ 14 58 (bA 18 24575) HT_.out ?_
          refine tw_ 13 57 (bA 18 32767) HT_.out HW_.out hHeld (hv := by rintro w' ⟨s0, s1, s2, s3⟩; go_simp; with_reducible rfl) (h := ?_)
          refine last_ (i := 15) (N := some 59) (bA 18 65535) rfl rfl (one_of HT_.out (by kernel_rfl)) (by decide) (fun K hK => ?_)
          refine gw_ Tryz.func25 #[.pointer (some ⟨gc, 0, none⟩), .agg #[(.slice gA t gcc), (.slice gE gm gce), (.int .i64 0), (.int .i64 ggw)], .slice A i cA, .int .i64 1099511627776, .int .i64 (-5)] ?_
          with_reducible refine ((HAk2.out w5 HR5.out 1099511627776 (-5))).mono ?_
          rintro e6 w6 ⟨rfl, hb6⟩
          refine ⟨_, rfl, ?_⟩
          refine hK.out _ _ ?_; clear hK K
          refine norm_ (a' := ?_) ?_ ?_
          rotate_left
          · show Act.put _ (some 59) _ = _
            simp only [Act.put, pA, pB, pC, pD, pE]; rfl
          refine pw_ 16 60 (bA 18 131071) HT_.out ?_
          refine pw_ 17 4 (bA 18 262143) HT_.out ?_
          refine done_ (done_of HT_.out (by kernel_rfl)) ?_
          clear hHeld HT_ HW_
          have HZ := Lib.hid (HB5.out.trans (hb6.mono HB5.out.size))
          clear hb1 hb2 hb3 hb4 hb5 hb6 q0 q1 q2 q3 hwd HB1 HB2 HB3 HB4 HB5 HR1 HR2 HR3 HR4 HR5
          go_wp2
          go_ret
          exact ⟨rfl, by rw [hgB] at HZ; exact HZ.out⟩
end Go.Proofs.YthomnpgpbhpojaaGreat.Cd
