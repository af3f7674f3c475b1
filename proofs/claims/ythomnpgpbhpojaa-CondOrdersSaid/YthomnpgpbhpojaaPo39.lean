/- CondOrders. -/
import Derived.Test.YthomnpgpbhpojaaPo5
import Derived.Test.YthomnpgpbhpojaaPo38
import Derived.Deep.CutBlock
namespace Go.Proofs.Ythomnpgpbhpojaa.Cd
open Go Go.RowKit Go.MapKept Go.Proofs.Ythomnpgpbhpojaa.Mem Go.Proofs.Ythomnpgpbhpojaa.Sl Go.Proofs.Ythomnpgpbhpojaa.Scc Go.Proofs.Ythomnpgpbhpojaa.Tj Go.Proofs.Ythomnpgpbhpojaa.Lw Go.Proofs.Ythomnpgpbhpojaa.Pt Go.Proofs.YthomnpgpbhpojaaW.PrintWords Go.Proofs.YthomnpgpbhpojaaW.PrintLast
attribute [local go_sem ↓] Go.wp_at_zero Go.wp_at_succ
set_option linter.unusedSimpArgs false
set_option linter.unusedVariables false

theorem drop_mem {l : List Int} (hl : l.Nodup) {i : Nat} {x : Int} (hx : l[i]? = some x) : x ∉ l.drop (i + 1) ∧ ∀ y, y ∈ l.drop i ↔ y = x ∨ y ∈ l.drop (i + 1) := by
  obtain ⟨hi, rfl⟩ := List.getElem?_eq_some_iff.1 hx
  have h1 : l.drop i = l[i] :: l.drop (i + 1) := (List.getElem_cons_drop hi).symm
  refine ⟨fun h => ?_, fun y => by rw [h1, List.mem_cons]⟩
  have h2 : (l.drop i).Nodup := (List.drop_sublist i l).nodup hl
  rw [h1, List.nodup_cons] at h2
  exact h2.1 h
theorem drop_uni {es : List (Int × Int × Int)} (hu : Uni es) {i : Nat} {x : Int × Int × Int} (hx : es[i]? = some x) : (∀ p ∈ es.drop (i + 1), p.1 ≠ x.1) ∧ ∀ y, y ∈ es.drop i ↔ y = x ∨ y ∈ es.drop (i + 1) := by
  obtain ⟨hi, he⟩ := List.getElem?_eq_some_iff.1 hx
  have h1 : es.drop i = x :: es.drop (i + 1) := by rw [← he]; exact (List.getElem_cons_drop hi).symm
  refine ⟨fun p hp e => ?_, fun y => by rw [h1, List.mem_cons]⟩
  obtain ⟨t, ht⟩ := List.mem_iff_getElem?.1 hp
  rw [List.getElem?_drop] at ht
  have := hu _ _ p x ht hx e
  omega
theorem w64n (k : Nat) (h : k ≤ 60) : wrap64 (k : Int) = (k : Int) := by unfold wrap64; omega
theorem u64n (k : Nat) (h : k ≤ 60) : IntKind.u64.wrap (k : Int) = (k : Int) := by rw [IntKind.wrap_u64]; omega
def Ex (es ed : List (Int × Int × Int)) : Prop := ∀ p ∈ ed, ∀ q ∈ es, p.1 ≠ q.1
section
variable {es e0 ed : List (Int × Int × Int)}
theorem back_step {i : Nat} {x : Int × Int × Int} (hu : Uni es) (hx : es[i]? = some x) (hm : ∀ p, p ∈ ed ↔ p ∈ e0 ∨ p ∈ es.drop (i + 1)) (he : Ex es e0) : (∀ p ∈ ed, p.1 ≠ x.1) ∧ ∀ p, p ∈ ed ++ [x] ↔ p ∈ e0 ∨ p ∈ es.drop i := by
  obtain ⟨h1, h2⟩ := drop_uni hu hx
  refine ⟨fun p hp => ?_, fun p => ?_⟩
  · rcases (hm p).1 hp with h | h
    · exact he p h x (List.mem_of_getElem? hx)
    · exact h1 p h
  · rw [List.mem_append, List.mem_singleton, hm, h2]
    constructor
    · rintro ((h | h) | h)
      · exact .inl h
      · exact .inr (.inr h)
      · exact .inr (.inl h)
    · rintro (h | h | h)
      · exact .inl (.inl h)
      · exact .inr h
      · exact .inl (.inr h)
theorem gone_step {j : Nat} {x : Int × Int × Int} (hu : Uni e0) (hx : e0[j]? = some x) (hm : ∀ p, p ∈ ed ↔ p ∈ es ∨ p ∈ e0.drop j) (he : Ex es e0) : x ∈ ed ∧ ∀ p, p ∈ ed.filter (fun p => decide (p.1 ≠ x.1)) ↔ p ∈ es ∨ p ∈ e0.drop (j + 1) := by
  obtain ⟨h1, h2⟩ := drop_uni hu hx
  refine ⟨(hm x).2 (.inr ((h2 x).2 (.inl rfl))), fun p => ?_⟩
  rw [List.mem_filter, hm, h2]
  simp only [decide_eq_true_eq]
  constructor
  · rintro ⟨h | rfl | h, hn⟩
    · exact .inl h
    · exact absurd rfl hn
    · exact .inr h
  · rintro (h | h)
    · exact ⟨.inl h, fun e => he x (List.mem_of_getElem? hx) p h e.symm⟩
    · exact ⟨.inr (.inr h), h1 p h⟩
end
def tb4_8.T8 : Bool × List (List Nat × List Nat) := (true, [([], []), ([], []), ([], []), ([], []), ([2, 3], [2, 3]), ([4], [4]), ([0, 1, 5], [0, 1, 5]), ([6], [6]), ([7], [7]), ([7], [7]), ([8, 6, 0, 1, 2, 3, 4, 5, 6, 7, 8], [8]), ([9, 10, 0, 1, 2, 3, 4, 5, 6, 7, 8, 9, 10], [9])])
def tb4_8.B8 : List Nat := [0, 0, 0, 0, 12, 28, 63, 127, 255, 255, 511, 2047]
theorem tb4_8.tab8 : rtab .any (opsOf Try.f4 8) = tb4_8.T8 := by kernel_rfl
theorem tb4_8.bits8 : waitsOk tb4_8.T8.2 tb4_8.B8 = true := by kernel_rfl
def tb4_20.T20 : Bool × List (List Nat × List Nat) := (true, [([], []), ([0], [0]), ([], []), ([], []), ([2, 3], [2, 3]), ([4], [4]), ([5], [5]), ([6], [6]), ([], []), ([8], [8]), ([9], [9]), ([10], [10]), ([7, 11], [7, 11]), ([12], [12]), ([1, 13], [1, 13]), ([14], [14]), ([], []), ([16], [16]), ([], []), ([], []), ([18, 19], [18, 19]), ([20], [20]), ([21], [21]), ([22], [22]), ([], []), ([24], [24]), ([25], [25]), ([26], [26]), ([23, 27], [23, 27]), ([28], [28]), ([17, 29], [17, 29]), ([30], [30]), ([15, 0, 1, 2, 3, 4, 5, 6, 7, 8, 9, 10, 11, 12, 13, 14, 15], [15]), ([31, 32, 0, 1, 2, 3, 4, 5, 6, 7, 8, 9, 10, 11, 12, 13, 14, 15, 16, 17, 18, 19, 20, 21, 22, 23, 24, 25, 26, 27, 28, 29, 30, 31, 32], [31])])
def tb4_20.B20 : List Nat := [0, 1, 0, 0, 12, 28, 60, 124, 0, 256, 768, 1792, 4092, 8188, 16383, 32767, 0, 65536, 0, 0, 786432, 1835008, 3932160, 8126464, 0, 16777216, 50331648, 117440512, 268173312, 536608768, 1073676288, 2147418112, 65535, 8589934591]
theorem tb4_20.tab20 : rtab .any (opsOf Try.f4 20) = tb4_20.T20 := by kernel_rfl
theorem tb4_20.bits20 : waitsOk tb4_20.T20.2 tb4_20.B20 = true := by kernel_rfl
def tb4_26.T26 : Bool × List (List Nat × List Nat) := (true, [([], []), ([], []), ([1], [1]), ([], []), ([2, 3], [2, 3]), ([4], [4]), ([5], [5]), ([], []), ([7], [7]), ([], []), ([8, 9], [8, 9]), ([10], [10]), ([11], [11]), ([], []), ([13], [13]), ([], []), ([14, 15], [14, 15]), ([16], [16]), ([17], [17]), ([0, 6, 12, 18], [0, 6, 12, 18]), ([19], [19])])
def tb4_26.B26 : List Nat := [0, 0, 2, 0, 14, 30, 62, 0, 128, 0, 896, 1920, 3968, 0, 8192, 0, 57344, 122880, 253952, 524287, 1048575]
theorem tb4_26.tab26 : rtab .any (opsOf Try.f4 26) = tb4_26.T26 := by kernel_rfl
theorem tb4_26.bits26 : waitsOk tb4_26.T26.2 tb4_26.B26 = true := by kernel_rfl
set_option maxHeartbeats 16000000 in
set_option maxRecDepth 100000 in
theorem condOrders_calls (w : World) (A : Option Addr) (c : Nat) (s : List (Int × Int × Int × Int)) (A2 : Option Addr) (c2 : Nat) (s2 : List (Int × Int × Int × Int)) (hrd : RdO w A s) (hrd2 : RdO w A2 s2) :
    Calls Try.prog 4 #[.slice A s.length c, .slice A2 s2.length c2] w fun e w' => e = .returned (.bool true) ∧ Below w.heap.size w w' := by
  obtain ⟨i1, hi1, hz1, hs1, hy1⟩ := info_parts Lw.info_int
  obtain ⟨n, hn⟩ : ∃ n, s.length = n := ⟨_, rfl⟩
  obtain ⟨n2, hn2⟩ : ∃ n, s2.length = n := ⟨_, rfl⟩
  rw [hn, hn2]
  have HS := Lib.hid (And.intro hn hrd)
  have HS2 := Lib.hid (And.intro hn2 hrd2)
  have HN := Lib.hid (aw_new w)
  clear hrd hn hrd2 hn2
  go_enter Try.func4, Try.ntmps4
  go_wp2_with fail
  refine HN.out.mono ?_
  clear HN
  rintro en w1 ⟨gc, rfl, hA, hC⟩
  obtain ⟨_, _, _, _, _, _, _, _, hb1⟩ := hA
  have HC1 := Lib.hid (And.intro hC hb1)
  have HN := Lib.hid (cNew2 w1)
  clear hC hb1
  go_wp2_with fail
  refine HN.out.mono ?_
  clear HN
  rintro en w2 ⟨gd, db, rfl, hD, hdn, hb2⟩
  have hsd := sd_new HC1.out.1 HC1.out.2 hD hdn hb2 ((Below.refl _ _).alloc (Nat.le_refl _) (.cells #[.slice none 0 0, .slice none 0 0, .int .i64 0, .int .i64 0] 28)) (At.made rfl rfl)
  have HSC0 := Lib.hid hsd
  have HAw := Lib.hid (awake_calls (w2.alloc (.cells #[.slice none 0 0, .slice none 0 0, .int .i64 0, .int .i64 0] 28)))
  clear hsd hD hdn hb2 HC1
  go_wp2_with fail
  refine HAw.out.mono ?_
  clear HAw
  rintro en w3 ⟨rfl, hb3⟩
  have HS3 := Lib.hid (HSC0.out.below hb3)
  clear hb3
  go_upto_block 0 with (fail)
  obtain ⟨gB, hgB⟩ : ∃ gB, w2.heap.size = gB := ⟨_, rfl⟩
  rw [hgB] at HS3 ⊢
  clear HSC0 hgB
  go_cut [8, 9] from 34 to 55 (fun s8 s9 wx => ∃ G lk arcs cls row cb vs es, Dx w gc gd gB G lk arcs cls row cb vs es wx db [] [] (.slice none 0 0) [])
  case first =>
    go_wp2_with fail
    go_loopg [8] 61 (fun kq v8 w' => ∃ j : Nat, v8 = .int .i64 (j : Int) ∧ Hid (j + kq = 61 ∧ j ≤ 60 ∧ j ≤ n ∧ ∃ G lk arcs cls row cb vs es, Sd w gd db w' gc gB j G lk arcs cls row cb vs es))
    case atStart => exact ⟨0, rfl, Lib.hid ⟨by omega, by omega, by omega, _, _, _, _, _, _, _, _, HS3.out⟩⟩
    case round =>
      obtain ⟨j, rfl, hI⟩ := hrel
      obtain ⟨hjk, hj60, hjn, ⟨gA, gn, gcc, gE, gm, gce, ggw⟩, lk, arcs, cls, row, cb, vs, es, hS⟩ := hI.out
      clear hI HS3
      by_cases hj : j < n ∧ j < 60
      · clear hjn
        obtain ⟨k1, rfl⟩ : ∃ k1, gk = k1 + 1 := ⟨gk - 1, by omega⟩
        obtain ⟨⟨k, e, u, v⟩, hx⟩ : ∃ x, s[j]? = some x := ⟨_, List.getElem?_eq_getElem (by rw [HS.out.1]; exact hj.1)⟩
        obtain ⟨ad, rfl, _⟩ := HS.out.2 j k e u v hx
        have HSC := Lib.hid (fun (W : World) (hb : Below w.heap.size w W) => show W.cell? (ad.add (j * 4)) = some (.int .i64 k) ∧ W.cell? ⟨(ad.add (j * 4)).block, (ad.add (j * 4)).off + 1, none⟩ = some (.int .i64 e) ∧ W.cell? ⟨(ad.add (j * 4)).block, (ad.add (j * 4)).off + 2, none⟩ = some (.int .i64 u) ∧ W.cell? ⟨(ad.add (j * 4)).block, (ad.add (j * 4)).off + 3, none⟩ = some (.int .i64 v) from by
          obtain ⟨ad', hA, c0, c1, c2, c3⟩ := (HS.out.2.below hb) j k e u v hx
          cases hA
          exact ⟨c0, c1, c2, c3⟩)
        have j0 : (0 : Int) ≤ (j : Int) := by omega
        have j1 : (j : Int) < (n : Int) := by omega
        have j2 : (j : Int) < 60 := by omega
        have HI := Lib.hid (And.intro hjk hS)
        have HJ := Lib.hid hj.2
        clear hjk hS hj60 hj hx
        go_upto_region 8 with (fail)
        obtain ⟨wd, hwd⟩ : ∃ wd, wr.drew = wd := ⟨_, rfl⟩
        have hSd : Sd w gd db wd gc gB j ⟨gA, gn, gcc, gE, gm, gce, ggw⟩ lk arcs cls row cb vs es := hwd ▸ HI.out.2.below (Below.refl _ _).drew
        have q0 := hSd.at_.cell 0 rfl
        have q1 := hSd.at_.cell 1 rfl
        have q2 := hSd.at_.cell 2 rfl
        have q3 := hSd.at_.cell 3 rfl
        have HP := Lib.hid (hSd.p.play k e u v)
        unfold Gp.v gV at HP
        have HSd := Lib.hid hSd
        clear hSd
        refine start_ (n := 12) (S := fun w' => w'.cell? ⟨gB, 0, none⟩ = some (.slice gA gn gcc) ∧ w'.cell? ⟨gB, 1, none⟩ = some (.slice gE gm gce) ∧ w'.cell? ⟨gB, 2, none⟩ = some (.int .i64 0) ∧ w'.cell? ⟨gB, 3, none⟩ = some (.int .i64 ggw) ∧ w'.cell? (ad.add (j * 4)) = some (.int .i64 k) ∧ w'.cell? ⟨(ad.add (j * 4)).block, (ad.add (j * 4)).off + 1, none⟩ = some (.int .i64 e) ∧ w'.cell? ⟨(ad.add (j * 4)).block, (ad.add (j * 4)).off + 2, none⟩ = some (.int .i64 u) ∧ w'.cell? ⟨(ad.add (j * 4)).block, (ad.add (j * 4)).off + 3, none⟩ = some (.int .i64 v)) (ds := [10]) (bA 12 0) (by kernel_rfl) rfl rfl ⟨(by rw [hwd]; exact q0), (by rw [hwd]; exact q1), (by rw [hwd]; exact q2), (by rw [hwd]; exact q3), (by rw [hwd]; exact (HSC.out wd HSd.out.b).1), (by rw [hwd]; exact (HSC.out wd HSd.out.b).2.1), (by rw [hwd]; exact (HSC.out wd HSd.out.b).2.2.1), (by rw [hwd]; exact (HSC.out wd HSd.out.b).2.2.2)⟩ (fun hHeld => ?_)
        rw [hwd] at hHeld ⊢
        refine with_tabW tb4_8.tab8 tb4_8.bits8 (fun HT_ HW_ => ?_)
        refine pw_ 0 45 (bA 12 1) HT_.out ?_
        refine pw_ 2 47 (bA 12 5) HT_.out ?_
        refine pw_ 3 48 (bA 12 13) HT_.out ?_
        refine pw_ 4 49 (bA 12 29) HT_.out ?_
        refine tw_ 1 46 (bA 12 31) HT_.out HW_.out hHeld (hv := by rintro w' ⟨s0, s1, s2, s3, s4, s5, s6, s7⟩; go_simp; with_reducible rfl) (h := ?_)
        refine tw_ 5 50 (bA 12 63) HT_.out HW_.out hHeld (hv := by rintro w' ⟨s0, s1, s2, s3, s4, s5, s6, s7⟩; go_simp; with_reducible rfl) (h := ?_)
        refine one_ (i := 6) (N := some 51) (bA 12 127) rfl rfl (one_of HT_.out (by kernel_rfl)) (by decide) (fun K hK => ?_)
        refine gw_ Try.func11 #[.pointer (some ⟨gc, 0, none⟩), .agg #[(.slice gA gn gcc), (.slice gE gm gce), (.int .i64 0), (.int .i64 ggw)], .agg #[(.int .i64 k), (.int .i64 e), (.int .i64 u), (.int .i64 v)]] ?_
        with_reducible refine (HP.out).mono ?_
        rintro ep w7 ⟨⟨xA, xn, xc, xE, xm, xce, xgw⟩, rfl, hPP⟩
        refine ⟨_, rfl, ?_⟩
        obtain ⟨hb7, hat7⟩ := HSd.out.play_below hPP
        have f0 := hat7.free 0
        have f1 := hat7.free 1
        have f2 := hat7.free 2
        have f3 := hat7.free 3
        have r0 := hat7.cell 0 rfl
        have r1 := hat7.cell 1 rfl
        have r2 := hat7.cell 2 rfl
        have r3 := hat7.cell 3 rfl
        refine hK.out _ _ ⟨r0, r1, r2, r3, (HSC.out w7 hb7).1, (HSC.out w7 hb7).2.1, (HSC.out w7 hb7).2.2.1, (HSC.out w7 hb7).2.2.2⟩ (fun hHeld => ?_)
        clear hK K
        refine norm_ (a' := ?_) ?_ ?_
        rotate_left
        · show Act.put _ (some 51) _ = _
          simp only [Act.put, pA, pB, pC, pD, pE]; rfl
        refine pw_ 7 44 (bA 12 255) HT_.out ?_
        refine pw_ 8 52 (bA 12 511) HT_.out ?_
        refine pw_ 9 53 (bA 12 1023) HT_.out ?_
        refine last_ (i := 10) (N := none) (bA 12 2047) rfl rfl (one_of HT_.out (by kernel_rfl)) (by decide) (fun K hK => ?_)
        refine skip_ (w1 := ?_) (by rfl) rfl ?_ ?_
        rotate_left; · go_simp; rfl
        refine hK.out _ _ ?_; clear hK K
        refine pw_ 11 9 (bA 12 4095) HT_.out ?_
        refine done_ (done_of HT_.out (by kernel_rfl)) ?_
        clear hHeld HT_ HW_
        obtain ⟨lk', arcs', cls', row', cb', vs', es', hS7⟩ := HSd.out.next hPP HJ.out (((((Kpt.refl (fun x => x = gB) w7).set (fun _ => rfl) (q := ⟨gB, 0, none⟩) (.slice xA xn xc)).set (fun _ => rfl) (q := ⟨gB, 1, none⟩) (.slice xE xm xce)).set (fun _ => rfl) (q := ⟨gB, 2, none⟩) (.int .i64 0)).set (fun _ => rfl) (q := ⟨gB, 3, none⟩) (.int .i64 xgw)) ((((hat7.put rfl).put rfl).put rfl).put rfl)
        refine gen_then (fun W => Sd w gd db W gc gB (j + 1) ⟨xA, xn, xc, xE, xm, xce, xgw⟩ lk' arcs' cls' row' cb' vs' es') hS7 ?_
        clear hS7 hPP hat7 hb7 f0 f1 f2 f3 r0 r1 r2 r3 q0 q1 q2 q3 hwd HP HSd
        intro wz hS
        have HX := Lib.hid (show j + 1 + k1 = 61 ∧ j + 1 ≤ 60 ∧ j + 1 ≤ n ∧ ∃ G lk arcs cls row cb vs es, Sd w gd db wz gc gB (j + 1) G lk arcs cls row cb vs es from ⟨by have := HI.out.1; omega, by have := HJ.out; omega, by omega, _, _, _, _, _, _, _, _, hS⟩)
        clear hS HI HJ HSC
        go_wp2
        go_roundg k1
        case measure => omega
        case rel => exact ⟨j + 1, by go_num, HX⟩
      · have HZ := Lib.hid (hS.dx hj60)
        have HJ := Lib.hid (show j = n ∨ (j < n ∧ j = 60) from by omega)
        clear hS hjk hj60 hjn hj
        rcases HJ.out with rfl | ⟨hjn, rfl⟩
        · clear HJ
          go_wp2_with fail
          go_meet
          exact ⟨_, _, _, _, _, _, _, _, HZ.out⟩
        · clear HJ
          have jn : (60 : Int) < (n : Int) := by omega
          go_wp2_with fail
          go_meet
          exact ⟨_, _, _, _, _, _, _, _, HZ.out⟩
  case rest =>
    obtain ⟨⟨gA, gn, gcc, gE, gm, gce, ggw⟩, lk, arcs, cls, row, cb, vs, es, hD⟩ := hcut
    rename World => w4
    clear HS3 HS
    have q0 := hD.at_.cell 0 rfl
    have hgn : vs.length = gn := hD.p.g.nv
    have hgm : es.length = gm := hD.p.g.ne
    have hln := hD.lv
    have hlm := hD.le
    have hw1 : wrap64 ((gn : Int) - 1) = (gn : Int) - 1 := by unfold wrap64; omega
    have HD := Lib.hid hD
    have HG := Lib.hid (And.intro hgn hgm)
    have gn60 : gn ≤ 60 := by omega
    have gm60 : gm ≤ 60 := by omega
    clear hD hgn hgm hln hlm
    go_upto_block 2 with (fail)
    clear q0
    go_cut [10] from 60 to 70 (fun s10 wx => ∃ db, Dx w gc gd gB ⟨gA, gn, gcc, gE, gm, gce, ggw⟩ lk arcs cls row cb vs es wx db vs [] (.slice none 0 0) [])
    case first =>
      go_wp2_with fail
      go_loopg [10] (gn + 1) (fun kq v10 w' => ∃ (t : Nat) (z : Int), v10 = .int .i64 z ∧ Hid (z = (t : Int) - 1 ∧ t + 1 = kq ∧ t ≤ gn ∧ ∃ db vd, Dx w gc gd gB ⟨gA, gn, gcc, gE, gm, gce, ggw⟩ lk arcs cls row cb vs es w' db vd [] (.slice none 0 0) [] ∧ ∀ x, x ∈ vd ↔ x ∈ vs.drop t))
      case atStart => exact ⟨gn, _, rfl, Lib.hid ⟨rfl, rfl, Nat.le_refl _, _, _, HD.out, by rw [← HG.out.1]; simp⟩⟩
      case round =>
        obtain ⟨t, z, rfl, hI⟩ := hrel
        obtain ⟨hz, htk, htn, db, vd, hD, hm⟩ := hI.out
        clear hI HD hw1
        rcases Nat.eq_zero_or_pos t with rfl | ht
        · have hz0 : ¬ (0 ≤ z) := by omega
          have HZ := Lib.hid (show Dx w gc gd gB ⟨gA, gn, gcc, gE, gm, gce, ggw⟩ lk arcs cls row cb vs es wr db vs [] (.slice none 0 0) [] from by
            obtain ⟨lkd, ad, cd, rd, hE, hS⟩ := hD.d
            have := up_ext hS.up hD.p.s.up hm
            exact this ▸ hD)
          clear hD hm hz htk htn
          go_wp2_with fail
          go_meet
          exact ⟨_, HZ.out⟩
        · obtain ⟨i, rfl⟩ : ∃ i, t = i + 1 := ⟨t - 1, by omega⟩
          obtain rfl : z = (i : Int) := by omega
          obtain ⟨k1, rfl⟩ : ∃ k1, gk = k1 + 1 := ⟨gk - 1, by omega⟩
          obtain ⟨v, hx⟩ : ∃ x, vs[i]? = some x := ⟨_, List.getElem?_eq_getElem (by have := HG.out.1; omega)⟩
          obtain ⟨d1, d2⟩ := drop_mem (nodup_of_up hD.p.s.up) hx
          obtain ⟨gv, hgv, cx⟩ := (RdI.of_own hD.p.g.rv).1 i v hx
          have hgA : gA = some ⟨gv, 0, none⟩ := hgv
          subst hgA
          have HA := Lib.hid (hD.addv fun hv => d1 ((hm v).1 hv))
          have HM := Lib.hid (show ∀ x, x ∈ sorted (vd ++ [v]) ↔ x ∈ vs.drop i from fun x => by
            have h1 : x ∈ sorted (vd ++ [v]) ↔ x ∈ vd ++ [v] := List.mem_mergeSort
            rw [h1, List.mem_append, List.mem_singleton, hm, d2]
            exact or_comm)
          have q0 := hD.at_.cell 0 rfl
          have i0 : (0 : Int) ≤ (i : Int) := by omega
          have i1' : (i : Int) < (gn : Int) := by omega
          have HK := Lib.hid (And.intro htk htn)
          clear hD hm hz htk htn ht hx d1 d2 hgv
          go_wp2_with fail
          refine HA.out.mono ?_
          clear HA q0 cx
          rintro ea wa ⟨rfl, db2, hD2⟩
          have HX := Lib.hid (show i + 1 = k1 ∧ i ≤ gn ∧ ∃ db vd, Dx w gc gd gB ⟨some ⟨gv, 0, none⟩, gn, gcc, gE, gm, gce, ggw⟩ lk arcs cls row cb vs es wa db vd [] (.slice none 0 0) [] ∧ ∀ x, x ∈ vd ↔ x ∈ vs.drop i from ⟨by have := HK.out.1; omega, by have := HK.out.2; omega, _, _, hD2, HM.out⟩)
          clear hD2 HM HK
          go_wp2
          go_roundg k1
          case measure => omega
          case rel => exact ⟨i, (i : Int) - 1, by go_num, Lib.hid ⟨rfl, HX.out⟩⟩
    case rest =>
      clear HD hw1
      obtain ⟨db, hD⟩ := hcut
      rename World => w5
      have HD := Lib.hid hD
      clear hD
      go_upto_block 4 with (fail)
      go_cut [11, 12, 13, 14, 15] from 71 to 136 (fun s11 s12 s13 s14 s15 wx => ∃ A11 m11 c11 db ed gl, s11 = .slice A11 m11 c11 ∧ Hid (Dx w gc gd gB ⟨gA, gn, gcc, gE, gm, gce, ggw⟩ lk arcs cls row cb vs es wx db vs ed (.slice A11 m11 c11) gl ∧ gl.length = m11 ∧ ed.map (·.1) = gl ∧ m11 ≤ 60 ∧ Ex es ed))
      case first =>
        go_wp2_with fail
        go_loopg [11, 12] 61 (fun kq v11 v12 w' => ∃ (A11 : Option Addr) (c11 i : Nat), (∃ m, v11 = .slice A11 m c11 ∧ v12 = .int .i64 (i : Int) ∧ Hid (i + kq = 61 ∧ i ≤ 60 ∧ i ≤ n2 ∧ ∃ db ed gl, Dx w gc gd gB ⟨gA, gn, gcc, gE, gm, gce, ggw⟩ lk arcs cls row cb vs es w' db vs ed (.slice A11 m c11) gl ∧ gl.length = m ∧ ed.map (·.1) = gl ∧ m ≤ i ∧ Ex es ed ∧ ∀ p ∈ ed, -1 - (i : Int) < p.1)))
        case atStart => exact ⟨none, 0, 0, 0, rfl, rfl, Lib.hid ⟨by omega, by omega, by omega, _, [], [], HD.out, rfl, rfl, by omega, fun p hp => by simp at hp, fun p hp => by simp at hp⟩⟩
        case round =>
          obtain ⟨A11, c11, i, m, rfl, rfl, hI⟩ := hrel
          obtain ⟨hik, hi60, hin, db, ed, gl, hD, hgl, hmap, hmi, hex, hlow⟩ := hI.out
          clear hI HD
          by_cases hi : i < n2 ∧ i < 60 ∧ 0 < gn
          · obtain ⟨k1, rfl⟩ : ∃ k1, gk = k1 + 1 := ⟨gk - 1, by omega⟩
            obtain ⟨⟨mk, me, mu, mv⟩, hx⟩ : ∃ x, s2[i]? = some x := ⟨_, List.getElem?_eq_getElem (by rw [HS2.out.1]; exact hi.1)⟩
            obtain ⟨ad, rfl, _⟩ := HS2.out.2 i mk me mu mv hx
            obtain ⟨ad', hA', _, _, c2', c3'⟩ := (HS2.out.2.below hD.b) i mk me mu mv hx
            cases hA'
            obtain ⟨a, ha1, ha2⟩ := md_ex gn mu hi.2.2
            obtain ⟨b, hb1, hb2⟩ := md_ex gn mv hi.2.2
            obtain ⟨ua, hua⟩ : ∃ x, vs[a]? = some x := ⟨_, List.getElem?_eq_getElem (by have := HG.out.1; omega)⟩
            obtain ⟨ub, hub⟩ : ∃ x, vs[b]? = some x := ⟨_, List.getElem?_eq_getElem (by have := HG.out.1; omega)⟩
            obtain ⟨gv, hgv, cxa⟩ := (RdI.of_own hD.p.g.rv).1 a ua hua
            have hgA : gA = some ⟨gv, 0, none⟩ := hgv
            subst hgA
            obtain ⟨gv', hgv', cxb⟩ := (RdI.of_own hD.p.g.rv).1 b ub hub
            cases hgv'
            have hwe : wrap64 (-1 - (i : Int)) = -1 - (i : Int) := by unfold wrap64; omega
            have q0 := hD.at_.cell 0 rfl
            have j0 : (0 : Int) ≤ (i : Int) := by omega
            have j1 : (i : Int) < (n2 : Int) := by omega
            have j2 : (i : Int) < 60 := by omega
            have j3 : (0 : Int) < (gn : Int) := by omega
            have HF := Lib.hid (And.intro hD (And.intro (And.intro c2' c3') (And.intro cxa cxb)))
            have HL := Lib.hid (show gl.length = m ∧ ed.map (·.1) = gl ∧ m ≤ i ∧ Ex es ed ∧ (∀ p ∈ ed, -1 - (i : Int) < p.1) ∧ i + (k1 + 1) = 61 ∧ ua ∈ vs ∧ ub ∈ vs from ⟨hgl, hmap, hmi, hex, hlow, hik, List.mem_of_getElem? hua, List.mem_of_getElem? hub⟩)
            clear hD hgl hmap hmi hex hlow hik hi60 hin hi hx hua hub hgv c2' c3' cxa cxb
            go_upto_region 20 with (fail)
            clear hwe
            obtain ⟨wd, hwd⟩ : ∃ wd, wr.drew = wd := ⟨_, rfl⟩
            have hbd : Below wr.heap.size wr wd := hwd ▸ (Below.refl _ _).drew
            have HDd := Lib.hid (HF.out.1.below hbd)
            have q0 := HDd.out.at_.cell 0 rfl
            have c2 := keep_at hbd HF.out.2.1.1
            have c3 := keep_at hbd HF.out.2.1.2
            have ca := keep_at hbd HF.out.2.2.1
            have cb2 := keep_at hbd HF.out.2.2.2
            have nz : ¬ gn = 0 := by omega
            have a0 : (0 : Int) ≤ (a : Int) := by omega
            have a1 : (a : Int) < (gn : Int) := by omega
            have b0 : (0 : Int) ≤ (b : Int) := by omega
            have b1 : (b : Int) < (gn : Int) := by omega
            have ha60 : a ≤ 60 := by omega
            have hb60 : b ≤ 60 := by omega
            have e1 := u64n gn gn60
            have e2 := w64n a ha60
            have e3 := w64n b hb60
            clear ha60 hb60; clear hbd
            refine start_ (n := 34) (S := fun w' => w'.cell? ⟨gB, 0, none⟩ = some (.slice (some ⟨gv, 0, none⟩) gn gcc) ∧ w'.cell? ⟨(ad.add (i * 4)).block, (ad.add (i * 4)).off + 2, none⟩ = some (.int .i64 mu) ∧ w'.cell? ⟨(ad.add (i * 4)).block, (ad.add (i * 4)).off + 3, none⟩ = some (.int .i64 mv) ∧ w'.cell? ⟨gv, a, none⟩ = some (.int .i64 ua) ∧ w'.cell? ⟨gv, b, none⟩ = some (.int .i64 ub)) (ds := []) (bA 34 0) (by kernel_rfl) rfl rfl ⟨(by rw [hwd]; exact q0), (by rw [hwd]; exact c2), (by rw [hwd]; exact c3), (by rw [hwd]; exact ca), (by rw [hwd]; exact cb2)⟩ (fun hHeld => ?_)
            rw [hwd] at hHeld ⊢
            refine with_tabW tb4_20.tab20 tb4_20.bits20 (fun HT_ HW_ => ?_)
            refine pw_ 0 89 (bA 34 1) HT_.out ?_
            refine pw_ 2 91 (bA 34 5) HT_.out ?_
            refine pw_ 3 92 (bA 34 13) HT_.out ?_
            refine pw_ 4 93 (bA 34 29) HT_.out ?_
            refine pw_ 5 94 (bA 34 61) HT_.out ?_
            refine pw_ 8 97 (bA 34 317) HT_.out ?_
            refine pw_ 16 105 (bA 34 65853) HT_.out ?_
            refine pw_ 18 107 (bA 34 327997) HT_.out ?_
            refine pw_ 19 108 (bA 34 852285) HT_.out ?_
            refine pw_ 20 109 (bA 34 1900861) HT_.out ?_
            refine pw_ 21 110 (bA 34 3998013) HT_.out ?_
            refine pw_ 24 113 (bA 34 20775229) HT_.out ?_
            refine tw_ 1 90 (bA 34 20775231) HT_.out HW_.out hHeld (hv := by rintro w' ⟨s0, s1, s2, s3, s4⟩; go_simp; with_reducible rfl) (h := ?_)
            refine tw_ 6 95 (bA 34 20775295) HT_.out HW_.out hHeld (hv := by rintro w' ⟨s0, s1, s2, s3, s4⟩; go_simp; with_reducible rfl) (h := ?_)
            refine pw_ 7 96 (bA 34 20775423) HT_.out ?_
            refine tw_ 9 98 (bA 34 20775935) HT_.out HW_.out hHeld (hv := by rintro w' ⟨s0, s1, s2, s3, s4⟩; go_simp; with_reducible rfl) (h := ?_)
            refine pw_ 10 99 (bA 34 20776959) HT_.out ?_
            refine pw_ 11 100 (bA 34 20779007) HT_.out ?_
            refine pw_ 12 101 (bA 34 20783103) HT_.out ?_
            refine pw_ 13 102 (bA 34 20791295) HT_.out ?_
            refine pw_ 14 103 (bA 34 20807679) HT_.out ?_
            refine tw_ 15 104 (bA 34 20840447) HT_.out HW_.out hHeld (hv := by rintro w' ⟨s0, s1, s2, s3, s4⟩; go_simp; with_reducible rfl) (h := ?_)
            refine pw_ 32 14 (bA 34 4315807743) HT_.out ?_
            refine tw_ 17 106 (bA 34 4315938815) HT_.out HW_.out hHeld (hv := by rintro w' ⟨s0, s1, s2, s3, s4⟩; go_simp; with_reducible rfl) (h := ?_)
            refine tw_ 22 111 (bA 34 4320133119) HT_.out HW_.out hHeld (hv := by rintro w' ⟨s0, s1, s2, s3, s4⟩; go_simp; with_reducible rfl) (h := ?_)
            refine pw_ 23 112 (bA 34 4328521727) HT_.out ?_
            refine tw_ 25 114 (bA 34 4362076159) HT_.out HW_.out hHeld (hv := by rintro w' ⟨s0, s1, s2, s3, s4⟩; go_simp; with_reducible rfl) (h := ?_)
            refine pw_ 26 115 (bA 34 4429185023) HT_.out ?_
            refine pw_ 27 116 (bA 34 4563402751) HT_.out ?_
            refine pw_ 28 117 (bA 34 4831838207) HT_.out ?_
            refine pw_ 29 118 (bA 34 5368709119) HT_.out ?_
            refine pw_ 30 119 (bA 34 6442450943) HT_.out ?_
            refine tw_ 31 120 (bA 34 8589934591) HT_.out HW_.out hHeld (hv := by rintro w' ⟨s0, s1, s2, s3, s4⟩; go_simp; with_reducible rfl) (h := ?_)
            refine pw_ 33 15 (bA 34 17179869183) HT_.out ?_
            refine done_ (done_of HT_.out (by kernel_rfl)) ?_
            clear hHeld HT_ HW_
            have q1 := HDd.out.at_.cell 1 rfl
            have q2 := HDd.out.at_.cell 2 rfl
            have q3 := HDd.out.at_.cell 3 rfl
            have HAt := Lib.hid (HDd.out.at07 (-1 - (i : Int)))
            unfold Gp.v gV at HAt
            clear c2 c3 ca cb2 ha1 hb1 e1 e2 e3 hwd HF a0 a1 b0 b1
            by_cases hno : ∀ p ∈ es, p.1 ≠ (-1 - (i : Int))
            · have hat := atI_no hno
              rw [hat] at HAt
              have HNo := Lib.hid hno
              clear hno hat
              go_wp2_with fail
              refine HAt.out.mono ?_
              clear HAt q0 q1 q2 q3
              rintro eb w7 ⟨rfl, hb7⟩
              have HA := Lib.hid ((HDd.out.below hb7).adda (e := (-1 - (i : Int))) (u := ua) (v := ub) (by have := HDd.out.lv; omega) (by have h1 := HL.out.1; have h3 := congrArg List.length HL.out.2.1; rw [List.length_map] at h3; have := HL.out.2.2.1; omega) (fun p hp h1 => by have := HL.out.2.2.2.2.1 p hp; omega) HL.out.2.2.2.2.2.2.1 HL.out.2.2.2.2.2.2.2)
              clear hb7 HDd
              go_wp2_with fail
              refine HA.out.mono ?_
              clear HA
              rintro eb w8 ⟨rfl, db2, hD2⟩
              have HD2 := Lib.hid hD2
              have ho0 := hD2.g
              rw [HL.out.1] at ho0
              have HO := Lib.hid ho0
              have hm60 : m ≤ 60 := by have := HL.out.2.2.1; omega
              clear hD2 ho0
              go_wp2_with ((at_builtin; (refine wpList_append_any rfl (.tmp 133) (.tmp 135) 25 rfl w.heap.size 3 i1 (.int .i64 0) 1 8 Try.underlying25 hi1 hz1 hs1 hy1 rfl (by omega) _ _ _ rfl (HO.out.alloc (.cells #[.int .i64 (-1 - (i : Int))] 3)) _ rfl 1 [.int .i64 (-1 - (i : Int))] (RdV.lit _ #[.int .i64 (-1 - (i : Int))] 3 1 1 1 rfl (by simp [Value.oneCell'])) (by unfold maxLen; omega) (by omega) (by have := HD2.out.b.size; simp; omega) ?_; intro v7 w7 ho hg hn; have H7 := Lib.hid ((HD2.out.below ((Below.refl _ _).alloc (Nat.le_refl _) (.cells #[.int .i64 (-1 - (i : Int))] 3))).push (gl' := gl ++ [-1 - (i : Int)]) (by rw [List.length_append, HL.out.1, ints_app]; exact ho) hg hn); clear ho hg hn)))
              obtain ⟨A7, c7, rfl⟩ : ∃ A c, v7 = .slice A (m + 1) c := by
                have := H7.out.g
                rw [List.length_append, HL.out.1] at this
                exact Lw.own_slice this
              have HX := Lib.hid (show i + 1 + k1 = 61 ∧ i + 1 ≤ 60 ∧ i + 1 ≤ n2 ∧ ∃ db ed gl, Dx w gc gd gB ⟨some ⟨gv, 0, none⟩, gn, gcc, gE, gm, gce, ggw⟩ lk arcs cls row cb vs es w7 db vs ed (.slice A7 (m + 1) c7) gl ∧ gl.length = m + 1 ∧ ed.map (·.1) = gl ∧ m + 1 ≤ i + 1 ∧ Ex es ed ∧ ∀ p ∈ ed, -1 - ((i + 1 : Nat) : Int) < p.1 from by
                obtain ⟨hgl, hmap, hmi, hex, hlow, hik, _⟩ := HL.out
                refine ⟨by omega, by omega, by omega, db2, ed ++ [((-1 - (i : Int)), ua, ub)], gl ++ [(-1 - (i : Int))], H7.out, by simp [hgl], by simp [hmap], by omega, fun p hp => ?_, fun p hp => ?_⟩
                · rcases List.mem_append.1 hp with hp | hp
                  · exact hex p hp
                  · rw [List.mem_singleton] at hp
                    subst hp
                    exact fun q hq h1 => HNo.out q hq h1.symm
                · rcases List.mem_append.1 hp with hp | hp
                  · have := hlow p hp; omega
                  · rw [List.mem_singleton] at hp
                    subst hp
                    show -1 - ((i + 1 : Nat) : Int) < -1 - (i : Int)
                    omega)
              clear H7 HD2 HO HL HNo
              go_roundg k1
              case measure => omega
              case rel => exact ⟨A7, c7, i + 1, m + 1, rfl, by go_num, HX⟩
            · obtain ⟨i7, h7⟩ : ∃ i7 : Nat, atI es (-1 - (i : Int)) = (i7 : Int) := by
                unfold atI
                cases hf : es.findIdx? (fun p => decide (p.1 = (-1 - (i : Int)))) with
                | some i7 => exact ⟨i7, rfl⟩
                | none =>
                  rw [List.findIdx?_eq_none_iff] at hf
                  exact absurd (fun p hp => by simpa using hf p hp) hno
              rw [h7] at HAt
              have hi7 : ¬ ((i7 : Int) < 0) := by omega
              clear hno h7
              go_wp2_with fail
              refine HAt.out.mono ?_
              clear HAt q0 q1 q2 q3
              rintro eb w7 ⟨rfl, hb7⟩
              have HX := Lib.hid (show i + 1 + k1 = 61 ∧ i + 1 ≤ 60 ∧ i + 1 ≤ n2 ∧ ∃ db ed gl, Dx w gc gd gB ⟨some ⟨gv, 0, none⟩, gn, gcc, gE, gm, gce, ggw⟩ lk arcs cls row cb vs es w7 db vs ed (.slice A11 m c11) gl ∧ gl.length = m ∧ ed.map (·.1) = gl ∧ m ≤ i + 1 ∧ Ex es ed ∧ ∀ p ∈ ed, -1 - ((i + 1 : Nat) : Int) < p.1 from by
                obtain ⟨hgl, hmap, hmi, hex, hlow, hik, _⟩ := HL.out
                exact ⟨by omega, by omega, by omega, db, ed, gl, HDd.out.below hb7, hgl, hmap, by omega, hex, fun p hp => by have := hlow p hp; omega⟩)
              clear hb7 HDd HL
              go_wp2
              go_roundg k1
              case measure => omega
              case rel => exact ⟨A11, c11, i + 1, m, rfl, by go_num, HX⟩
          · have HZ := Lib.hid (show Hid (Dx w gc gd gB ⟨gA, gn, gcc, gE, gm, gce, ggw⟩ lk arcs cls row cb vs es wr db vs ed (.slice A11 m c11) gl ∧ gl.length = m ∧ ed.map (·.1) = gl ∧ m ≤ 60 ∧ Ex es ed) from Lib.hid ⟨hD, hgl, hmap, by omega, hex⟩)
            have q0 := hD.at_.cell 0 rfl
            have HJ := Lib.hid (show i = n2 ∨ (i < n2 ∧ i = 60) ∨ (i < n2 ∧ i < 60 ∧ gn = 0) from by omega)
            clear hD hgl hmap hmi hex hlow hik hi60 hin hi
            rcases HJ.out with rfl | ⟨hjn, rfl⟩ | ⟨hjn, h60, rfl⟩
            · clear HJ
              go_wp2_with fail
              go_meet
              exact ⟨_, _, _, _, _, _, rfl, HZ.out⟩
            · clear HJ
              have jn : (60 : Int) < (n2 : Int) := by omega
              go_wp2_with fail
              go_meet
              exact ⟨_, _, _, _, _, _, rfl, HZ.out⟩
            · clear HJ
              have jn : (i : Int) < (n2 : Int) := by omega
              have j6 : (i : Int) < 60 := by omega
              go_wp2_with fail
              go_meet
              exact ⟨_, _, _, _, _, _, rfl, HZ.out⟩
      case rest =>
        clear HD
        obtain ⟨A11, m11, c11, db, ed0, gl, rfl, hI⟩ := hcut
        rename World => w6
        have q1 := hI.out.1.at_.cell 1 rfl
        have hw1 : wrap64 ((gm : Int) - 1) = (gm : Int) - 1 := by unfold wrap64; omega
        go_upto_block 6 with (fail)
        clear q1
        go_cut [16] from 141 to 165 (fun s16 wx => ∃ db ed, Dx w gc gd gB ⟨gA, gn, gcc, gE, gm, gce, ggw⟩ lk arcs cls row cb vs es wx db vs ed (.slice A11 m11 c11) gl ∧ ∀ p, p ∈ ed ↔ p ∈ es ∨ p ∈ ed0)
        case first =>
          go_wp2_with fail
          go_loopg [16] (gm + 1) (fun kq v16 w' => ∃ (t : Nat) (z : Int), v16 = .int .i64 z ∧ Hid (z = (t : Int) - 1 ∧ t + 1 = kq ∧ t ≤ gm ∧ ∃ db ed, Dx w gc gd gB ⟨gA, gn, gcc, gE, gm, gce, ggw⟩ lk arcs cls row cb vs es w' db vs ed (.slice A11 m11 c11) gl ∧ (∀ p, p ∈ ed ↔ p ∈ ed0 ∨ p ∈ es.drop t) ∧ ed.length + t = m11 + gm))
          case atStart =>
            refine ⟨gm, _, rfl, Lib.hid ⟨rfl, rfl, Nat.le_refl _, _, _, hI.out.1, fun p => ?_, ?_⟩⟩
            · rw [← HG.out.2]; simp
            · have h1 := hI.out.2.1
              have h2 := hI.out.2.2.1
              rw [← h2, List.length_map] at h1
              omega
          case round =>
            obtain ⟨t, z, rfl, hJ⟩ := hrel
            obtain ⟨hz, htk, htn, db, ed, hD, hm, hln⟩ := hJ.out
            clear hJ hw1
            rcases Nat.eq_zero_or_pos t with rfl | ht
            · have hz0 : ¬ (0 ≤ z) := by omega
              have HZ := Lib.hid (show ∃ db ed, Dx w gc gd gB ⟨gA, gn, gcc, gE, gm, gce, ggw⟩ lk arcs cls row cb vs es wr db vs ed (.slice A11 m11 c11) gl ∧ ∀ p, p ∈ ed ↔ p ∈ es ∨ p ∈ ed0 from ⟨db, ed, hD, fun p => by rw [hm, List.drop_zero]; exact or_comm⟩)
              clear hD hm hz htk htn hln
              go_wp2_with fail
              go_meet
              exact HZ.out
            · obtain ⟨i, rfl⟩ : ∃ i, t = i + 1 := ⟨t - 1, by omega⟩
              obtain rfl : z = (i : Int) := by omega
              obtain ⟨k1, rfl⟩ : ∃ k1, gk = k1 + 1 := ⟨gk - 1, by omega⟩
              obtain ⟨⟨e, u, v⟩, hx⟩ : ∃ x, es[i]? = some x := ⟨_, List.getElem?_eq_getElem (by have := HG.out.2; omega)⟩
              obtain ⟨d1, d2⟩ := back_step hD.p.s.un hx hm hI.out.2.2.2.2
              obtain ⟨ge, hge, x0, x1, x2⟩ := RdG.of_own hD.p.g.re i e u v hx
              have hgE : gE = some ⟨ge, 0, none⟩ := hge
              subst hgE
              have hen := (hD.p.s.en e (u, v) ((hD.p.s.ae e u v).2 (List.mem_of_getElem? hx)))
              have HF := Lib.hid (And.intro hD (And.intro x0 (And.intro x1 x2)))
              have hm60 := hI.out.2.2.2.1
              have HA0 := Lib.hid (fun (W : World) (hb : Below wr.heap.size wr W) => (hD.below hb).adda (e := e) (u := u) (v := v) (by have := hD.lv; omega) (by omega) d1 ((hD.p.s.cv u).1 hen.1) ((hD.p.s.cv v).1 hen.2))
              have HK := Lib.hid (And.intro htk (And.intro htn (And.intro hln d2)))
              have i0 : (0 : Int) ≤ (i : Int) := by omega
              have i1' : (i : Int) < (gm : Int) := by omega
              have i2 : (gm : Int) ≤ 60 := by omega
              clear hD hm hz htk htn hln ht hx d1 d2 hge x0 x1 x2 hen hm60
              go_upto_region 26 with (fail)
              obtain ⟨wd, hwd⟩ : ∃ wd, wr.drew = wd := ⟨_, rfl⟩
              have hbd : Below wr.heap.size wr wd := hwd ▸ (Below.refl _ _).drew
              have q1 := (HF.out.1.below hbd).at_.cell 1 rfl
              have c0 := keep_at hbd HF.out.2.1
              have c1 := keep_at hbd HF.out.2.2.1
              have c2 := keep_at hbd HF.out.2.2.2
              have HA := Lib.hid (HA0.out wd hbd)
              clear hbd HA0 HF
              refine start_ (n := 21) (S := fun w' => w'.cell? ⟨gB, 1, none⟩ = some (.slice (some ⟨ge, 0, none⟩) gm gce) ∧ w'.cell? ⟨ge, i * 4, none⟩ = some (.int .i64 e) ∧ w'.cell? ⟨ge, i * 4 + 1, none⟩ = some (.int .i64 u) ∧ w'.cell? ⟨ge, i * 4 + 2, none⟩ = some (.int .i64 v)) (ds := [19]) (bA 21 0) (by kernel_rfl) rfl rfl ⟨(by rw [hwd]; exact q1), (by rw [hwd]; exact c0), (by rw [hwd]; exact c1), (by rw [hwd]; exact c2)⟩ (fun hHeld => ?_)
              rw [hwd] at hHeld ⊢
              refine with_tabW tb4_26.tab26 tb4_26.bits26 (fun HT_ HW_ => ?_)
              refine pw_ 0 145 (bA 21 1) HT_.out ?_
              refine pw_ 1 146 (bA 21 3) HT_.out ?_
              refine pw_ 3 148 (bA 21 11) HT_.out ?_
              refine pw_ 7 152 (bA 21 139) HT_.out ?_
              refine pw_ 9 154 (bA 21 651) HT_.out ?_
              refine pw_ 13 158 (bA 21 8843) HT_.out ?_
              refine pw_ 15 160 (bA 21 41611) HT_.out ?_
              refine tw_ 2 147 (bA 21 41615) HT_.out HW_.out hHeld (hv := by rintro w' ⟨s0, s1, s2, s3⟩; go_simp; with_reducible rfl) (h := ?_)
              refine pw_ 4 149 (bA 21 41631) HT_.out ?_
              refine pw_ 5 150 (bA 21 41663) HT_.out ?_
              refine tw_ 6 151 (bA 21 41727) HT_.out HW_.out hHeld (hv := by rintro w' ⟨s0, s1, s2, s3⟩; go_simp; with_reducible rfl) (h := ?_)
              refine tw_ 8 153 (bA 21 41983) HT_.out HW_.out hHeld (hv := by rintro w' ⟨s0, s1, s2, s3⟩; go_simp; with_reducible rfl) (h := ?_)
              refine pw_ 10 155 (bA 21 43007) HT_.out ?_
              refine pw_ 11 156 (bA 21 45055) HT_.out ?_
              refine tw_ 12 157 (bA 21 49151) HT_.out HW_.out hHeld (hv := by rintro w' ⟨s0, s1, s2, s3⟩; go_simp; with_reducible rfl) (h := ?_)
              refine tw_ 14 159 (bA 21 65535) HT_.out HW_.out hHeld (hv := by rintro w' ⟨s0, s1, s2, s3⟩; go_simp; with_reducible rfl) (h := ?_)
              refine pw_ 16 161 (bA 21 131071) HT_.out ?_
              refine pw_ 17 162 (bA 21 262143) HT_.out ?_
              refine tw_ 18 163 (bA 21 524287) HT_.out HW_.out hHeld (hv := by rintro w' ⟨s0, s1, s2, s3⟩; go_simp; with_reducible rfl) (h := ?_)
              refine last_ (i := 19) (N := some 164) (bA 21 1048575) rfl rfl (one_of HT_.out (by kernel_rfl)) (by decide) (fun K hK => ?_)
              refine gw_ Try.func13 #[.pointer (some ⟨gd, 0, none⟩), .int .i64 e, .int .i64 u, .int .i64 v] ?_
              with_reducible refine (HA.out).mono ?_
              rintro ea wa ⟨rfl, db2, hD2⟩
              refine ⟨_, rfl, ?_⟩
              refine hK.out _ _ ?_; clear hK K
              refine norm_ (a' := ?_) ?_ ?_
              rotate_left
              · show Act.put _ (some 164) _ = _
                simp only [Act.put, pA, pB, pC, pD, pE]; rfl
              refine pw_ 20 165 (bA 21 2097151) HT_.out ?_
              refine done_ (done_of HT_.out (by kernel_rfl)) ?_
              clear hHeld HT_ HW_
              have HX := Lib.hid (show i + 1 = k1 ∧ i ≤ gm ∧ ∃ db ed, Dx w gc gd gB ⟨gA, gn, gcc, some ⟨ge, 0, none⟩, gm, gce, ggw⟩ lk arcs cls row cb vs es wa db vs ed (.slice A11 m11 c11) gl ∧ (∀ p, p ∈ ed ↔ p ∈ ed0 ∨ p ∈ es.drop i) ∧ ed.length + i = m11 + gm from ⟨by have := HK.out.1; omega, by have := HK.out.2.1; omega, _, _, hD2, HK.out.2.2.2, by have := HK.out.2.2.1; rw [List.length_append, List.length_singleton]; omega⟩)
              clear hD2 HK q1 c0 c1 c2 hwd HA
              go_wp2
              go_roundg k1
              case measure => omega
              case rel => exact ⟨i, (i : Int) - 1, by go_num, Lib.hid ⟨rfl, HX.out⟩⟩
        case rest =>
          clear hw1
          obtain ⟨db, ed, hD, hm⟩ := hcut
          rename World => w7
          have HD := Lib.hid (And.intro hD hm)
          have HI := Lib.hid hI.out.2
          have hU : Uni ed0 := by
            obtain ⟨_, _, _, _, _, hS⟩ := hI.out.1.d
            exact hS.un
          have HU := Lib.hid hU
          have m60 : m11 ≤ 60 := hI.out.2.2.2.1
          clear hI hD hm hU
          go_upto_block 8 with (fail)
          go_cut [18] from 168 to 176 (fun s18 wx => ∃ db ed, Dx w gc gd gB ⟨gA, gn, gcc, gE, gm, gce, ggw⟩ lk arcs cls row cb vs es wx db vs ed (.slice A11 m11 c11) gl ∧ ∀ p, p ∈ ed ↔ p ∈ es)
          case first =>
            go_wp2_with fail
            go_loopg [168] (m11 + 1) (fun kq v168 w' => ∃ j : Nat, v168 = .int .i64 (j : Int) ∧ Hid (j + kq = m11 + 1 ∧ j ≤ m11 ∧ ∃ db ed, Dx w gc gd gB ⟨gA, gn, gcc, gE, gm, gce, ggw⟩ lk arcs cls row cb vs es w' db vs ed (.slice A11 m11 c11) gl ∧ ∀ p, p ∈ ed ↔ p ∈ es ∨ p ∈ ed0.drop j))
            case atStart => exact ⟨0, rfl, Lib.hid ⟨by omega, by omega, _, _, HD.out.1, by rw [List.drop_zero]; exact HD.out.2⟩⟩
            case round =>
              obtain ⟨j, rfl, hJ⟩ := hrel
              obtain ⟨hjk, hjm, db, ed, hD, hm⟩ := hJ.out
              clear hJ HD
              have hle0 : ed0.length = m11 := by
                have h1 := HI.out.1
                have h2 := HI.out.2.1
                rw [← h2, List.length_map] at h1
                exact h1
              by_cases hj : j < m11
              · obtain ⟨k1, rfl⟩ : ∃ k1, gk = k1 + 1 := ⟨gk - 1, by omega⟩
                obtain ⟨⟨e, u, v⟩, hx⟩ : ∃ x, ed0[j]? = some x := ⟨_, List.getElem?_eq_getElem (by omega)⟩
                obtain ⟨d1, d2⟩ := gone_step HU.out hx hm HI.out.2.2.2
                have hgj : gl[j]? = some e := by rw [← HI.out.2.1, List.getElem?_map, hx]; rfl
                have hg0 := hD.g
                rw [HI.out.1] at hg0
                obtain ⟨g, hg, cx⟩ := (RdI.of_own hg0).1 j e hgj
                subst hg
                have HA := Lib.hid (hD.dela (by have := hD.lv; omega) d1)
                have HK := Lib.hid (And.intro hjk d2)
                have j0 : (0 : Int) ≤ (j : Int) := by omega
                have j1 : (j : Int) < (m11 : Int) := by omega
                clear hD hm hjk hjm hx d1 d2 hle0 hgj hg0
                go_wp2_with fail
                refine HA.out.mono ?_
                clear HA cx
                rintro ea wa ⟨rfl, db2, hD2⟩
                have HX := Lib.hid (show j + 1 + k1 = m11 + 1 ∧ j + 1 ≤ m11 ∧ ∃ db ed, Dx w gc gd gB ⟨gA, gn, gcc, gE, gm, gce, ggw⟩ lk arcs cls row cb vs es wa db vs ed (.slice (some ⟨g, 0, none⟩) m11 c11) gl ∧ ∀ p, p ∈ ed ↔ p ∈ es ∨ p ∈ ed0.drop (j + 1) from ⟨by have := HK.out.1; omega, by omega, _, _, hD2, HK.out.2⟩)
                clear hD2 HK
                go_wp2
                go_roundg k1
                case measure => omega
                case rel => exact ⟨j + 1, by go_num, HX⟩
              · obtain rfl : j = m11 := by omega
                have jn : ¬ ((j : Int) < (j : Int)) := by omega
                have HZ := Lib.hid (show ∃ db ed, Dx w gc gd gB ⟨gA, gn, gcc, gE, gm, gce, ggw⟩ lk arcs cls row cb vs es wr db vs ed (.slice A11 j c11) gl ∧ ∀ p, p ∈ ed ↔ p ∈ es from ⟨db, ed, hD, fun p => by rw [hm, List.drop_eq_nil_of_le (by omega)]; simp⟩)
                clear hD hm hjk hjm hj hle0
                go_wp2_with fail
                go_meet
                exact HZ.out
          case rest =>
            clear HD HU HI
            obtain ⟨db, ed, hD, hm⟩ := hcut
            rename World => w8
            obtain ⟨M, Hp, Ap, hT⟩ := hD.tw hm
            have HT := Lib.hid hT
            have q0 := hD.at_.cell 0 rfl
            have HV := Lib.hid hD.p.g.rv
            have HB := Lib.hid hD.b
            clear hD hm hT
            go_upto_block 10 with (fail)
            clear q0
            go_cut [20] from 180 to 192 (fun s20 wx => Below w8.heap.size w8 wx)
            case first =>
              go_wp2_with fail
              go_loopg [180] (gn + 1) (fun kq v180 w' => ∃ j : Nat, v180 = .int .i64 (j : Int) ∧ Hid (j + kq = gn + 1 ∧ j ≤ gn ∧ Below w8.heap.size w8 w'))
              case atStart => exact ⟨0, rfl, Lib.hid ⟨by omega, by omega, Below.refl _ _⟩⟩
              case round =>
                obtain ⟨j, rfl, hJ⟩ := hrel
                obtain ⟨hjk, hjm, hb⟩ := hJ.out
                clear hJ
                by_cases hj : j < gn
                · obtain ⟨k1, rfl⟩ : ∃ k1, gk = k1 + 1 := ⟨gk - 1, by omega⟩
                  obtain ⟨v, hx⟩ : ∃ x, vs[j]? = some x := ⟨_, List.getElem?_eq_getElem (by have := HG.out.1; omega)⟩
                  obtain ⟨gv, hgv, cx⟩ := (RdI.of_own (own_below HV.out hb)).1 j v hx
                  have hgA : gA = some ⟨gv, 0, none⟩ := hgv
                  subst hgA
                  have j0 : (0 : Int) ≤ (j : Int) := by omega
                  have j1 : (j : Int) < (gn : Int) := by omega
                  obtain ⟨L, hL⟩ : ∃ L, M v = L := ⟨_, rfl⟩
                  have hm1 := HT.out.m gc (.inl rfl) wr hb v
                  have hml := HT.out.ml v
                  rw [hL] at hm1 hml
                  obtain ⟨nL, hnL⟩ : ∃ n, L.length = n := ⟨_, rfl⟩
                  have HM1 := Lib.hid hm1
                  have HK := Lib.hid (And.intro hjk (And.intro hb (And.intro hL (And.intro hnL hml))))
                  clear hjk hjm hb hx hgv hm1 hml hL hnL hj
                  go_wp2_with fail
                  refine HM1.out.mono ?_
                  clear HM1 cx
                  rintro e1 wa ⟨ua, rfl, oa, ba⟩
                  obtain ⟨A3, c3, rfl⟩ := Lw.own_slice oa
                  have HB1 := Lib.hid (HK.out.2.1.trans (ba.mono HK.out.2.1.size))
                  have hm2 := HT.out.m gd (.inr rfl) wa HB1.out v
                  rw [HK.out.2.2.1] at hm2
                  have HM2 := Lib.hid hm2
                  have HO := Lib.hid oa
                  rw [HK.out.2.2.2.1]
                  clear hm2 oa ba
                  go_wp2_with fail
                  refine HM2.out.mono ?_
                  clear HM2
                  rintro e2 wb ⟨ub, rfl, ob, bb⟩
                  obtain ⟨A4, c4, rfl⟩ := Lw.own_slice ob
                  have HB2 := Lib.hid (HB1.out.trans (bb.mono HB1.out.size))
                  have oa := own_below HO.out bb
                  rw [HK.out.2.2.2.1]
                  have HC := Lib.hid (sameO (n := nL) (by have := oa; rw [HK.out.2.2.2.1] at this ⊢; exact this) (by have := ob; rw [HK.out.2.2.2.1] at this ⊢; exact this) HK.out.2.2.2.1 HK.out.2.2.2.2)
                  clear oa ob bb HO HB1
                  go_wp2_with fail
                  refine HC.out.mono ?_
                  clear HC
                  rintro e3 wz ⟨rfl, bz⟩
                  have HX := Lib.hid (show j + 1 + k1 = gn + 1 ∧ j + 1 ≤ gn ∧ Below w8.heap.size w8 wz from ⟨by have := HK.out.1; omega, by omega, HB2.out.trans (bz.mono HB2.out.size)⟩)
                  clear HB2 bz HK
                  go_wp2
                  go_roundg k1
                  case measure => omega
                  case rel => exact ⟨j + 1, by go_num, HX⟩
                · obtain rfl : j = gn := by omega
                  have jn : ¬ ((j : Int) < (j : Int)) := by omega
                  have HZ := Lib.hid hb
                  clear hb hjk hjm hj
                  go_wp2_with fail
                  go_meet
                  exact HZ.out
            case rest =>
              rename World => w9
              have HB9 := Lib.hid hcut
              have HH1 := Lib.hid (HT.out.h gc (.inl rfl) w9 hcut)
              clear hcut
              go_wp2_with fail
              refine HH1.out.mono ?_
              clear HH1
              rintro e1 wa ⟨ua, L, rfl, oa, ba, pa⟩
              obtain ⟨nL, hnL⟩ : ∃ n, L.length = n := ⟨_, rfl⟩
              obtain ⟨A3, c3, rfl⟩ := Lw.own_slice oa
              have HBa := Lib.hid (HB9.out.trans (ba.mono HB9.out.size))
              have HH2 := Lib.hid (HT.out.h gd (.inr rfl) wa HBa.out)
              have HO := Lib.hid (And.intro oa (And.intro pa hnL))
              rw [hnL]
              clear oa ba pa hnL HB9
              go_wp2_with fail
              refine HH2.out.mono ?_
              clear HH2
              rintro e2 wb ⟨ub, L', rfl, ob, bb, pb⟩
              obtain rfl := HT.out.hu _ _ HO.out.2.1 pb
              obtain ⟨A4, c4, rfl⟩ := Lw.own_slice ob
              have oa := own_below HO.out.1 bb
              have hnL := HO.out.2.2
              have HBb := Lib.hid (HBa.out.trans (bb.mono HBa.out.size))
              have HC := Lib.hid (sameO (n := nL) (by have := oa; rw [hnL] at this ⊢; exact this) (by have := ob; rw [hnL] at this ⊢; exact this) hnL (HT.out.hl _ pb))
              rw [hnL]
              clear oa ob bb pb hnL HO HBa
              go_wp2_with fail
              refine HC.out.mono ?_
              clear HC
              rintro e3 wz ⟨rfl, bz⟩
              have HBz := Lib.hid (HBb.out.trans (bz.mono HBb.out.size))
              have HA1 := Lib.hid (HT.out.a gc (.inl rfl) wz HBz.out)
              clear bz HBb
              go_wp2_with fail
              refine HA1.out.mono ?_
              clear HA1
              rintro e4 wp ⟨up, R, rfl, op, bp, pp⟩
              obtain ⟨nR, hnR⟩ : ∃ n, R.length = n := ⟨_, rfl⟩
              obtain ⟨A5, c5, rfl⟩ := Lw.own_slice op
              have HBp := Lib.hid (HBz.out.trans (bp.mono HBz.out.size))
              have HA2 := Lib.hid (HT.out.a gd (.inr rfl) wp HBp.out)
              have HO := Lib.hid (And.intro op (And.intro pp hnR))
              rw [hnR]
              clear op bp pp hnR HBz
              go_wp2_with fail
              refine HA2.out.mono ?_
              clear HA2
              rintro e5 wq ⟨uq, R', rfl, oq, bq, pq⟩
              obtain rfl := HT.out.au _ _ HO.out.2.1 pq
              obtain ⟨A6, c6, rfl⟩ := Lw.own_slice oq
              have op := own_below HO.out.1 bq
              have hnR := HO.out.2.2
              have HBq := Lib.hid (HBp.out.trans (bq.mono HBp.out.size))
              have HC := Lib.hid (sameOA (n := nR) (by have := op; rw [hnR] at this ⊢; exact this) (by have := oq; rw [hnR] at this ⊢; exact this) hnR (HT.out.al _ pq))
              rw [hnR]
              clear op oq bq pq hnR HO HBp
              go_wp2_with fail
              refine HC.out.mono ?_
              clear HC
              rintro e6 wt ⟨rfl, bt⟩
              have HE := Lib.hid (HB.out.trans ((HBq.out.trans (bt.mono HBq.out.size)).mono HB.out.size))
              clear bt HBq
              go_wp2
              go_ret
              exact ⟨rfl, HE.out⟩
end Go.Proofs.Ythomnpgpbhpojaa.Cd
