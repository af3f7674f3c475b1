/- CertTurned, walked. -/
import Derived.Test.YtgihncjllelonaaHu5
import Derived.Test.YtgihncjllelonaaHu31
import Derived.Test.YtgihncjllelonaaHu29
namespace Go.Proofs.Ytgihncjllelonaa.Ce
open Go Go.RowKit Go.MapKept Go.Proofs.Ytgihncjllelonaa.Mem Go.Proofs.Ytgihncjllelonaa.Sl Go.Proofs.Ytgihncjllelonaa.Lw Go.Proofs.Ytgihncjllelonaa.Wt Go.Proofs.Ytgihncjllelonaa.Tb Go.Proofs.Ytgihncjllelonaa.Scc Go.Proofs.Ytgihncjllelonaa.Tj Go.Proofs.Ytgihncjllelonaa.Cf Go.Proofs.YtgihncjllelonaaW.PrintWords Go.Proofs.YtgihncjllelonaaW.PrintLast
attribute [local go_sem ↓] Go.wp_at_zero Go.wp_at_succ
set_option linter.unusedSimpArgs false
set_option linter.unusedVariables false
def tb6_12.T12 : Bool × List (List Nat × List Nat) := (true, [([], []), ([], []), ([0, 1], [0, 1]), ([2], [2]), ([3], [3]), ([], []), ([5], [5]), ([4, 6], [4, 6]), ([7], [7]), ([8], [8]), ([9, 8], [8, 9]), ([10, 8], [8, 10]), ([8, 11], [8, 11])])
def tb6_12.B12 : List Nat := [0, 0, 3, 7, 15, 0, 32, 127, 255, 511, 1023, 2047, 4095]
theorem tb6_12.tab12 : rtab .any (opsOf Try.f6 12) = tb6_12.T12 := by kernel_rfl
theorem tb6_12.bits12 : waitsOk tb6_12.T12.2 tb6_12.B12 = true := by kernel_rfl
def tb6_21.T21 : Bool × List (List Nat × List Nat) := (true, [([], []), ([], []), ([0, 1], [0, 1]), ([], []), ([], []), ([3, 4], [3, 4]), ([5], [5]), ([6], [6]), ([2, 7, 2], [2, 7]), ([8, 8, 0, 1, 2, 3, 4, 5, 6, 7, 8], [8])])
def tb6_21.B21 : List Nat := [0, 0, 3, 0, 0, 24, 56, 120, 255, 511]
theorem tb6_21.tab21 : rtab .any (opsOf Try.f6 21) = tb6_21.T21 := by kernel_rfl
theorem tb6_21.bits21 : waitsOk tb6_21.T21.2 tb6_21.B21 = true := by kernel_rfl
set_option maxHeartbeats 16000000 in
set_option maxRecDepth 100000 in
theorem certTurned_calls (w : World) (a1 a2 : Value) (xv : Int) (xf : Bool) (xb : Nat) (xe : Int) (l : List Int) (es : List Ed) (h1 : ArgV w a1 l.length 1 (ints l)) (h2 : ArgV w a2 es.length 4 (edsC es)) (hbit : ∀ p ∈ es, p.2.2.2 < 4294967296) (hxb : xb < 4294967296) :
    Calls Try.prog 6 #[a1, a2, .agg #[.int .i64 xv, .bool xf, .int .u32 (xb : Int), .int .i64 xe]] w fun e w' => e = .returned (.bool true) ∧ Below w.heap.size w w' := by
  obtain ⟨i5, hi5, hz5, hs5, hy5⟩ := info_parts info_dist
  have HX0 := Lib.hid (show At (w.alloc (.cells #[.int .i64 xv, .bool xf, .int .u32 (xb : Int), .int .i64 xe] 43)) w.heap.size [.int .i64 xv, .bool xf, .int .u32 (xb : Int), .int .i64 xe] 43 from At.made rfl rfl)
  have HB0 := Lib.hid ((Below.refl w.heap.size w).alloc (Nat.le_refl _) (.cells #[.int .i64 xv, .bool xf, .int .u32 (xb : Int), .int .i64 xe] 43))
  have HH := Lib.hid (And.intro h1 (And.intro h2 hbit))
  clear h1 h2 hbit
  go_enter Try.func6, Try.ntmps6
  go_wp2_with fail
  refine (awake_calls _).mono ?_
  rintro e w1 ⟨rfl, hb1⟩
  have hx1 := HX0.out.below hb1 HX0.out.lt
  have HB1 := Lib.hid (HB0.out.trans (hb1.mono HB0.out.size))
  obtain ⟨gx, hgx⟩ : ∃ g, w.heap.size = g := ⟨_, rfl⟩
  rw [hgx] at hx1 ⊢
  have HX1 := Lib.hid hx1
  clear hb1 hx1 HX0 HB0
  go_wp2_with fail
  refine (cutVs_calls w1 a1 l.length (ints l) (HH.out.1.below HB1.out)).mono ?_
  rintro e w2 ⟨v2, rfl, ho2⟩
  have HO2 := Lib.hid ho2
  clear ho2
  go_wp2_with fail
  refine (cutEdges_calls w2 a2 es.length (edsC es) ((HH.out.2.1.below HB1.out).below HO2.out.b)).mono ?_
  rintro e w3 ⟨v3, rfl, ho3⟩
  obtain ⟨L, hL⟩ : ∃ L, l.take 30 = L := ⟨_, rfl⟩
  obtain ⟨E, hE⟩ : ∃ E, es.take 120 = E := ⟨_, rfl⟩
  obtain ⟨nL, hnL⟩ : ∃ n, L.length = n := ⟨_, rfl⟩
  obtain ⟨nE, hnE⟩ : ∃ n, E.length = n := ⟨_, rfl⟩
  have hLn : nL ≤ 30 := by rw [← hnL, ← hL, List.length_take]; omega
  have hEn : nE ≤ 120 := by rw [← hnE, ← hE, List.length_take]; omega
  have hLe : min l.length 30 = nL := by rw [← hnL, ← hL, List.length_take]; omega
  have hEe : min es.length 120 = nE := by rw [← hnE, ← hE, List.length_take]; omega
  have ho2 := HO2.out.r
  have ho3' := ho3.r
  rw [Nat.mul_one, ints_take, min_take, hL, hLe] at ho2
  rw [edsC_take, min_take, hE, hEe] at ho3'
  obtain ⟨A2, c2, rfl⟩ := Lw.own_slice ho2
  obtain ⟨A3, c3, rfl⟩ := Lw.own_slice ho3'
  have hrv := (RdI.of_own ho2).1
  have hra := (RdD.of_own ho3').1
  have hb13 := HO2.out.b.trans (ho3.b.mono HO2.out.b.size)
  have HC := Lib.hid (And.intro (hrv.below ho3.b) (And.intro hra (And.intro (HX1.out.below hb13 HX1.out.lt) (And.intro (HB1.out.trans (hb13.mono HB1.out.size)) (And.intro hnL (And.intro hnE (show ∀ p ∈ E, p.2.2.2 < 4294967296 from fun p hp => HH.out.2.2 p (by rw [← hE] at hp; exact List.mem_of_mem_take hp))))))))
  clear ho2 ho3 ho3' hrv hra hb13 HO2 HB1 HX1 HH hL hE hnL hnE hLe hEe
  by_cases hn0 : nL = 0
  · subst hn0
    have htr := tree_calls w3 A2 A3 none c2 c3 0 L E [] 0 HC.out.1 HC.out.2.1 (fun j v f b e h => by simp at h) (by have := HC.out.2.2.2.2.1; omega) (by have := HC.out.2.2.2.2.2.1; omega) HC.out.2.2.2.2.2.2 (fun p hp => by cases hp)
    have hf : treeB L E 0 [] = false := by
      have hL0 : L = [] := List.length_eq_zero_iff.1 HC.out.2.2.2.2.1
      subst hL0
      unfold treeB
      rw [decide_eq_false (fun h => by
        obtain ⟨_, _, _, _, h5, _⟩ := tcode_zero h
        rw [show sorted [] = [] by simp [sorted]] at h5
        cases h5)]
      rfl
    rw [HC.out.2.2.2.2.1, HC.out.2.2.2.2.2.1, hf] at htr
    have HTR := Lib.hid htr
    clear htr hf
    go_wp2_with fail
    refine HTR.out.mono ?_
    clear HTR
    rintro e w4 ⟨rfl, hb4⟩
    have HB := Lib.hid (HC.out.2.2.2.1.trans (hb4.mono HC.out.2.2.2.1.size))
    clear hb4
    go_wp2
    go_ret
    exact ⟨rfl, HB.out⟩
  · have hnz : ((nL : Int) == 0) = false := beq_eq_false_iff_ne.2 (by omega)
    have hpos : (0 : Int) < (nL : Int) := by omega
    obtain ⟨s, hs0⟩ : ∃ s, L[0]? = some s := ⟨_, List.getElem?_eq_getElem (by have := HC.out.2.2.2.2.1; omega)⟩
    obtain ⟨b2, hA2, cs⟩ := HC.out.1 0 s hs0
    subst hA2
    obtain ⟨code, hcode⟩ : ∃ c, tcode (sorted L) E s = c := ⟨_, rfl⟩
    have hbu := build_calls w3 (some ⟨b2, 0, none⟩) A3 c2 c3 L E s HC.out.1 HC.out.2.1 (by have := HC.out.2.2.2.2.1; omega) (by have := HC.out.2.2.2.2.2.1; omega) HC.out.2.2.2.2.2.2 (fun hz => dj_ends (by rw [sorted_length]; have := HC.out.2.2.2.2.1; omega) hz)
    rw [HC.out.2.2.2.2.1, HC.out.2.2.2.2.2.1, hcode] at hbu
    have HBU := Lib.hid hbu
    clear hbu
    go_wp2_with fail
    refine HBU.out.mono ?_
    clear HBU cs
    rintro e w4 ⟨hb4, hcase⟩
    rcases hcase with ⟨hne, rfl⟩ | ⟨hz, gt, n1, c1, me1, ms1, A1, Rt, ⟨kd, hdj⟩, rfl, hTM⟩
    · have hz1 : ((code : Int) != 0) = true := by simpa using (show ¬ ((code : Int) = 0) by omega)
      have HB := Lib.hid (HC.out.2.2.2.1.trans (hb4.mono HC.out.2.2.2.1.size))
      clear hb4 hne hcode hs0
      go_wp2
      go_ret
      exact ⟨rfl, HB.out⟩
    · subst hz
      have hSp := build_spots (sv := sorted L) (by rw [sorted_length]; have := HC.out.2.2.2.2.1; omega) hcode HC.out.2.2.2.2.2.2 hdj
      have hsl : (sorted L).length = nL := by rw [sorted_length]; exact HC.out.2.2.2.2.1
      obtain rfl : n1 = nL := by
        have := hTM.ro.1
        rw [ints_length, hsl] at this
        omega
      have hTr := TrM.of hTM
      have hdi := dists_calls w4 gt n1 c1 me1 ms1 A1 s (sorted L) Rt hTr hsl (by omega) (sorted_rising L) hSp.q
      have HDI := Lib.hid hdi
      have HS := Lib.hid (And.intro hSp (And.intro hcode (And.intro hsl hb4)))
      clear hb4 hcode hdj hTM hSp hsl hTr hdi hs0
      go_wp2_with fail
      refine HDI.out.mono ?_
      clear HDI
      rintro e w5 ⟨v10, rfl, ho10⟩
      obtain ⟨g10, c10, rfl, _⟩ := ho10.r.form (by omega)
      obtain ⟨ds, hds⟩ : ∃ ds, dsOf (sorted L) Rt = ds := ⟨_, rfl⟩
      rw [hds] at ho10
      have hdl : ds.length = n1 := by rw [← hds]; unfold dsOf; rw [List.length_map]; exact HS.out.2.2.1
      have hb35 := HS.out.2.2.2.trans (ho10.b.mono HS.out.2.2.2.size)
      have hT5 : TuM w w5 (some ⟨b2, 0, none⟩) A3 gx w4.heap.size g10 n1 c10 L E xv xf xb xe ds := ⟨HC.out.1.below hb35, HC.out.2.1.below hb35, HC.out.2.2.1.below hb35 HC.out.2.2.1.lt, ho10.r, HC.out.2.2.2.1.trans (hb35.mono HC.out.2.2.2.1.size)⟩
      have HT := Lib.hid hT5
      have HD := Lib.hid (And.intro hds (And.intro hdl (And.intro HS.out.1 (And.intro HS.out.2.1 (And.intro HS.out.2.2.1 HC.out.2.2.2.2)))))
      clear ho10 hds hdl hb35 hT5 HS HC
      obtain ⟨i, hi1', hi2⟩ := md_ex n1 xv (by omega)
      have HW := Lib.hid (And.intro (show ∀ y : Int, y = xv → (IntKind.u64.wrap y).tmod (n1 : Int) = (i : Int) from fun y hy => by rw [hy]; exact hi1') (And.intro (show ∀ k : Nat, k = n1 → IntKind.u64.wrap (k : Int) = (k : Int) from fun k hk => u64n k (by omega)) (show ∀ k : Nat, k = i → wrap64 (k : Int) = (k : Int) from fun k hk => by unfold wrap64; omega)))
      clear hi1'
      have x0 := HT.out.x.cell 0 rfl
      have hnz2 : ¬ ((n1 : Int) = 0) := by omega
      obtain ⟨⟨v, f, b, ed⟩, hxi⟩ : ∃ x, ds[i]? = some x := ⟨_, List.getElem?_eq_getElem (by have := HD.out.2.1; omega)⟩
      obtain ⟨hvi, hdv⟩ : (sorted L)[i]? = some v ∧ dsAt Rt v = (v, f, b, ed) := by
        have h := hxi
        rw [← HD.out.1] at h
        unfold dsOf at h
        rw [List.getElem?_map] at h
        cases hv : (sorted L)[i]? with
        | none => rw [hv] at h; cases h
        | some u =>
          rw [hv] at h
          have h : dsAt Rt u = (v, f, b, ed) := Option.some.inj h
          have hu : u = v := by rw [← dsAt_key Rt u, h]
          subst hu
          exact ⟨rfl, h⟩
      have HE := Lib.hid (And.intro hxi (And.intro hvi hdv))
      have hbd32 : ∀ p ∈ ds, p.2.2.1 < 4294967296 := fun p hp => by
        rw [← HD.out.1] at hp
        unfold dsOf at hp
        obtain ⟨u, _, rfl⟩ := List.mem_map.1 hp
        cases hr : Rt u with
        | none =>
          rw [dsAt_none hr]
          show (0 : Nat) < _
          omega
        | some r =>
          rw [dsAt_some hr]
          have := HD.out.2.2.1.q u r hr
          show r.1 < _
          omega
      have HD32 := Lib.hid hbd32
      clear hxi hvi hdv hbd32
      have i0 : (0 : Int) ≤ (i : Int) := by omega
      have i1 : (i : Int) < (n1 : Int) := by omega
      obtain ⟨hi1, hu, hw⟩ := HW.out
      go_upto_region 12 with (fail)
      clear x0 hi1 hu HW
      try rw [hw i rfl]
      clear hw
      go_cut [75] from 63 to 75 (fun s75 wx => s75 = .bool (decide (b ≠ xb) && !xf) ∧ TuM w wx (some ⟨b2, 0, none⟩) A3 gx w4.heap.size g10 n1 c10 L E xv xf xb xe ds)
      case first =>
        obtain ⟨wd, hwd⟩ : ∃ wd, w5.drew = wd := ⟨_, rfl⟩
        have hTd := HT.out.below (Below.refl w5.heap.size w5).drew
        rw [hwd] at hTd
        have HTd := Lib.hid hTd
        have HQ := Lib.hid (And.intro (hTd.cells HE.out.1).2.2.1 (And.intro (hTd.x.cell 2 rfl) (hTd.x.cell 1 rfl)))
        clear hTd
        by_cases hbx : b = xb
        · subst hbx
          have hq : ((b : Int) != (b : Int)) = false := by simp
          have HZ := Lib.hid (show (.bool false : Value) = .bool (decide (b ≠ b) && !xf) from by simp)
          refine start_ (n := 13) (S := fun w' => w'.cell? ⟨g10, i * 4 + 2, none⟩ = some (.int .u32 (b : Int)) ∧ w'.cell? ⟨gx, 2, none⟩ = some (.int .u32 (b : Int)) ∧ w'.cell? ⟨gx, 1, none⟩ = some (.bool xf)) (ds := []) (bA 13 0) (by kernel_rfl) rfl rfl ⟨(by rw [hwd]; exact HQ.out.1), (by rw [hwd]; exact HQ.out.2.1), (by rw [hwd]; exact HQ.out.2.2)⟩ (fun hHeld => ?_)
          rw [hwd] at hHeld ⊢
          refine with_tabW tb6_12.tab12 tb6_12.bits12 (fun HT_ HW_ => ?_)
          refine pw_ 0 63 (bA 13 1) HT_.out ?_
          refine pw_ 1 64 (bA 13 3) HT_.out ?_
          refine pw_ 2 65 (bA 13 7) HT_.out ?_
          refine pw_ 3 66 (bA 13 15) HT_.out ?_
          refine pw_ 5 68 (bA 13 47) HT_.out ?_
          refine tw_ 4 67 (bA 13 63) HT_.out HW_.out hHeld (hv := by rintro w' ⟨s0, s1, s2⟩; go_simp; with_reducible rfl) (h := ?_)
          refine tw_ 6 69 (bA 13 127) HT_.out HW_.out hHeld (hv := by rintro w' ⟨s0, s1, s2⟩; go_simp; with_reducible rfl) (h := ?_)
          refine pw_ 7 70 (bA 13 255) HT_.out ?_
          refine pw_ 8 71 (bA 13 511) HT_.out ?_
          refine pu_ 9 72 (bA 13 1023) HT_.out ?_
          refine pu_ 10 73 (bA 13 2047) HT_.out ?_
          refine pu_ 11 74 (bA 13 4095) HT_.out ?_
          refine pw_ 12 75 (bA 13 8191) HT_.out ?_
          refine done_ (done_of HT_.out (by kernel_rfl)) ?_
          clear hHeld HT_ HW_; clear HQ hwd
          go_wp2_with fail
          go_meet
          exact ⟨HZ.out, HTd.out⟩
        · have hq : ((b : Int) != (xb : Int)) = true := by simpa using (show ¬ ((b : Int) = (xb : Int)) by omega)
          have HZ := Lib.hid (show (.bool (!xf) : Value) = .bool (decide (b ≠ xb) && !xf) from by simp [hbx])
          refine start_ (n := 13) (S := fun w' => w'.cell? ⟨g10, i * 4 + 2, none⟩ = some (.int .u32 (b : Int)) ∧ w'.cell? ⟨gx, 2, none⟩ = some (.int .u32 (xb : Int)) ∧ w'.cell? ⟨gx, 1, none⟩ = some (.bool xf)) (ds := []) (bA 13 0) (by kernel_rfl) rfl rfl ⟨(by rw [hwd]; exact HQ.out.1), (by rw [hwd]; exact HQ.out.2.1), (by rw [hwd]; exact HQ.out.2.2)⟩ (fun hHeld => ?_)
          rw [hwd] at hHeld ⊢
          refine with_tabW tb6_12.tab12 tb6_12.bits12 (fun HT_ HW_ => ?_)
          refine pw_ 0 63 (bA 13 1) HT_.out ?_
          refine pw_ 1 64 (bA 13 3) HT_.out ?_
          refine pw_ 2 65 (bA 13 7) HT_.out ?_
          refine pw_ 3 66 (bA 13 15) HT_.out ?_
          refine pw_ 5 68 (bA 13 47) HT_.out ?_
          refine tw_ 4 67 (bA 13 63) HT_.out HW_.out hHeld (hv := by rintro w' ⟨s0, s1, s2⟩; go_simp; with_reducible rfl) (h := ?_)
          refine tw_ 6 69 (bA 13 127) HT_.out HW_.out hHeld (hv := by rintro w' ⟨s0, s1, s2⟩; go_simp; with_reducible rfl) (h := ?_)
          refine pw_ 7 70 (bA 13 255) HT_.out ?_
          refine pw_ 8 71 (bA 13 511) HT_.out ?_
          refine pw_ 9 72 (bA 13 1023) HT_.out ?_
          refine tw_ 10 73 (bA 13 2047) HT_.out HW_.out hHeld (hv := by rintro w' ⟨s0, s1, s2⟩; go_simp; with_reducible rfl) (h := ?_)
          refine pw_ 11 74 (bA 13 4095) HT_.out ?_
          refine pw_ 12 75 (bA 13 8191) HT_.out ?_
          refine done_ (done_of HT_.out (by kernel_rfl)) ?_
          clear hHeld HT_ HW_; clear HQ hwd
          go_wp2_with fail
          go_meet
          exact ⟨HZ.out, HTd.out⟩
      case rest =>
        obtain ⟨rfl, hT6⟩ := hcut
        rename World => w6
        clear HT
        have HT := Lib.hid hT6
        clear hT6
        obtain ⟨q, hq⟩ : ∃ q, (decide (b ≠ xb) && !xf) = q := ⟨_, rfl⟩
        rw [hq]
        have HQB := Lib.hid (show q = true → b ≠ xb from fun h => by
          rw [h] at hq
          simp at hq
          exact hq.1)
        clear hq
        have hcL := HD.out.2.1
        go_upto_if 75 with (fail)
        go_cut [12] from 76 to 90 (fun s12 wx => TuM w wx (some ⟨b2, 0, none⟩) A3 gx w4.heap.size g10 n1 c10 L E xv xf xb xe ds)
        case first =>
          cases q with
          | false =>
            go_wp2_with fail
            go_meet
            exact HT.out
          | true =>
            have hne := HQB.out rfl
            have HRV := Lib.hid (rdV_own HT.out.l (dsC_one ds))
            go_upto_region 14 with ((at_builtin; (refine wpList_append_any rfl (.tmp 76) (.tmp 77) 40 rfl w6.heap.size 43 i5 (.agg #[.int .i64 0, .bool false, .int .u32 0, .int .i64 0]) 4 24 Try.underlying40 hi5 hz5 hs5 hy5 rfl (by omega) _ 0 [] rfl (own_made rfl (Nat.le_refl _)) _ rfl n1 (dsC ds) (HRV.out.below ((Below.refl _ _).alloc (Nat.le_refl _) (.cells #[] 43))) (by unfold maxLen; omega) (by omega) (by simp) ?_; intro vn wn ho hg hn; have HN := Lib.hid ((One.make (Below.refl _ _) (own_made (T := 43) (size := 4) rfl (Nat.le_refl _)) ((Below.refl w6.heap.size w6).alloc (Nat.le_refl _) (.cells #[] 43))).grow ho hg); clear ho hg hn; rw [Nat.zero_add, List.nil_append] at HN)))
            obtain ⟨g12, c12, rfl, hg12, _⟩ := HN.out.r.form (by omega)
            have hTn := HT.out.below HN.out.b
            have x2 := hTn.x.cell 2 rfl
            have hck := (HN.out.r.cellAt (i * 4 + 2) (by omega)).trans (dsC_at ds i v f b ed HE.out.1).2.2.1
            have hfr := HN.out.r.frozenAt (i * 4 + 2)
            have hst := (HN.out.r.stored (i * 4 + 2) (.int .u32 (xb : Int))).1
            rw [dsC_set2 ds i v f b xb ed HE.out.1] at hst
            have HN2 := Lib.hid (And.intro (HT.out.below (HN.out.b.setCell (p := ⟨g12, i * 4 + 2, none⟩) hg12 (.int .u32 (xb : Int)))) (rdS_own hst).1)
            clear hst hTn HN HRV
            go_upto_region 15 with (fail)
            clear x2 hck hfr
            refine gen_world (fun W => TuM w W (some ⟨b2, 0, none⟩) A3 gx w4.heap.size g10 n1 c10 L E xv xf xb xe ds ∧ RdS W (some ⟨g12, 0, none⟩) (ds.set i (v, f, xb, ed))) HN2.out ?_
            clear HN2
            rintro w15 ⟨hT15, hr15⟩
            have HTC := Lib.hid (And.intro (hT15.tree (c2 := c2) (c3 := c3) (c := c12) (s := s) (nl := n1) (ans := false) hr15 HD.out.2.2.2.2.2.1 (by omega) HD.out.2.2.2.2.2.2.1 (by omega) HD.out.2.2.2.2.2.2.2 (fun p hp => by
              rcases List.mem_or_eq_of_mem_set hp with hp | rfl
              · exact HD32.out p hp
              · exact hxb) (by rw [List.length_set]; exact HD.out.2.1) (by
              rw [← HD.out.1]
              exact turned_bits HD.out.2.2.2.1 HD.out.2.2.1 HE.out.2.1 HE.out.2.2 (Ne.symm hne))) hT15)
            clear hT15 hr15
            go_wp2_with fail
            refine HTC.out.1.mono ?_
            rintro e16 w16 ⟨rfl, hb16⟩
            have HT16 := Lib.hid (HTC.out.2.below hb16)
            clear hb16 HTC
            go_wp2_with fail
            go_meet
            exact HT16.out
        case rest =>
          rename World => w7
          have HT7 := Lib.hid hcut
          clear hcut HT HQB
          have HRV := Lib.hid (rdV_own HT7.out.l (dsC_one ds))
          -- the mark turned
          go_upto_region 18 with ((at_builtin; (refine wpList_append_any rfl (.tmp 91) (.tmp 92) 40 rfl w7.heap.size 43 i5 (.agg #[.int .i64 0, .bool false, .int .u32 0, .int .i64 0]) 4 24 Try.underlying40 hi5 hz5 hs5 hy5 rfl (by omega) _ 0 [] rfl (own_made rfl (Nat.le_refl _)) _ rfl n1 (dsC ds) (HRV.out.below ((Below.refl _ _).alloc (Nat.le_refl _) (.cells #[] 43))) (by unfold maxLen; omega) (by omega) (by simp) ?_; intro vn wn ho hg hn; have HN := Lib.hid ((One.make (Below.refl _ _) (own_made (T := 43) (size := 4) rfl (Nat.le_refl _)) ((Below.refl w7.heap.size w7).alloc (Nat.le_refl _) (.cells #[] 43))).grow ho hg); clear ho hg hn; rw [Nat.zero_add, List.nil_append] at HN)))
          obtain ⟨g13, c13, rfl, hg13, _⟩ := HN.out.r.form (by omega)
          have hck := (HN.out.r.cellAt (i * 4 + 1) (by omega)).trans (dsC_at ds i v f b ed HE.out.1).2.1
          have hfr := HN.out.r.frozenAt (i * 4 + 1)
          have hst := (HN.out.r.stored (i * 4 + 1) (.bool (!f))).1
          rw [dsC_set1 ds i v f (!f) b ed HE.out.1] at hst
          have HN2 := Lib.hid (And.intro (HT7.out.below (HN.out.b.setCell (p := ⟨g13, i * 4 + 1, none⟩) hg13 (.bool (!f)))) (rdS_own hst).1)
          clear hst HN HRV
          go_upto_region 19 with (fail)
          clear hck hfr
          refine gen_world (fun W => TuM w W (some ⟨b2, 0, none⟩) A3 gx w4.heap.size g10 n1 c10 L E xv xf xb xe ds ∧ RdS W (some ⟨g13, 0, none⟩) (ds.set i (v, !f, b, ed))) HN2.out ?_
          clear HN2
          rintro w8 ⟨hT8, hr8⟩
          have HT8 := Lib.hid (And.intro hT8 hr8)
          -- one left out
          obtain ⟨_, hA, hnc, hcr1, AD, cD, hsl, hcr2⟩ := RdV.cutR (P := Try.prog) (t := 40) (e := 43) Try.underlying40 hi5 hs5 hT8.l (dsC_one ds) (show i < n1 by omega)
          cases hA
          rw [dsC_take] at hcr1
          rw [dsC_drop] at hcr2
          have HRV := Lib.hid (And.intro hcr1 hcr2)
          have m10 : i ≤ c10 := by omega
          clear hT8 hr8 hcr1 hcr2
          go_upto_region 20 with ((at_builtin; (refine wpList_append_any rfl (.tmp 104) (.tmp 107) 40 rfl w8.heap.size 43 i5 (.agg #[.int .i64 0, .bool false, .int .u32 0, .int .i64 0]) 4 24 Try.underlying40 hi5 hz5 hs5 hy5 rfl (by omega) _ 0 [] rfl (own_made rfl (Nat.le_refl _)) _ rfl i (dsC (ds.take i)) (HRV.out.1.below ((Below.refl _ _).alloc (Nat.le_refl _) (.cells #[] 43))) (by unfold maxLen; omega) (by omega) (by simp) ?_; intro vn wn ho hg hn; have HN := Lib.hid ((One.make (Below.refl _ _) (own_made (T := 43) (size := 4) rfl (Nat.le_refl _)) ((Below.refl w8.heap.size w8).alloc (Nat.le_refl _) (.cells #[] 43))).grow ho hg); clear ho hg hn; rw [Nat.zero_add, List.nil_append] at HN)))
          obtain ⟨A14, c14, rfl⟩ := Lw.own_slice HN.out.r
          have HRV2 := Lib.hid (HRV.out.2.below HN.out.b)
          go_upto_region 21 with ((at_builtin; (refine wpList_append_any rfl (.tmp 109) (.tmp 113) 40 rfl w8.heap.size 43 i5 (.agg #[.int .i64 0, .bool false, .int .u32 0, .int .i64 0]) 4 24 Try.underlying40 hi5 hz5 hs5 hy5 rfl (by omega) _ _ _ rfl (HN.out.r) _ rfl (n1 - (i + 1)) (dsC (ds.drop (i + 1))) (HRV2.out) (by unfold maxLen; omega) (by omega) HN.out.b.size ?_; intro vn wn ho hg hn; have HN2 := Lib.hid (HN.out.grow ho hg); clear ho hg hn)))
          obtain ⟨A14, c14, rfl⟩ := Lw.own_slice HN2.out.r
          have hdn := HN2.out.r
          rw [← dsC_append] at hdn
          obtain ⟨nd, hnd⟩ : ∃ k, i + (n1 - (i + 1)) = k := ⟨_, rfl⟩
          rw [hnd] at hdn ⊢
          have HN3 := Lib.hid (And.intro (HT8.out.1.below HN2.out.b) (And.intro (HT8.out.2.below HN2.out.b) (rdS_own hdn).1))
          have HND := Lib.hid (show (ds.take i ++ ds.drop (i + 1)).length = nd ∧ nd ≠ n1 from ⟨(rdS_own hdn).2.symm, by omega⟩)
          clear hdn hnd HN HN2 HRV HRV2 hsl HT8
          refine gen_world (fun W => TuM w W (some ⟨b2, 0, none⟩) A3 gx w4.heap.size g10 n1 c10 L E xv xf xb xe ds ∧ RdS W (some ⟨g13, 0, none⟩) (ds.set i (v, !f, b, ed)) ∧ RdS W A14 (ds.take i ++ ds.drop (i + 1))) HN3.out ?_
          clear HN3
          rintro w9 ⟨hT9, hr9, hs9⟩
          obtain ⟨wd, hwd⟩ : ∃ wd, w9.drew = wd := ⟨_, rfl⟩
          have hbd : Below w9.heap.size w9 wd := hwd ▸ (Below.refl _ _).drew
          have HTd := Lib.hid (hT9.below hbd)
          have HRd := Lib.hid (And.intro (hr9.below hbd) (hs9.below hbd))
          clear hT9 hr9 hs9 hbd
          refine start_ (n := 10) (S := fun w' => w'.cell? ⟨g10, i * 4, none⟩ = some (.int .i64 v) ∧ w'.cell? ⟨g10, i * 4 + 1, none⟩ = some (.bool f) ∧ w'.cell? ⟨g10, i * 4 + 2, none⟩ = some (.int .u32 (b : Int)) ∧ w'.cell? ⟨g10, i * 4 + 3, none⟩ = some (.int .i64 ed)) (ds := [8]) (bA 10 0) (by kernel_rfl) rfl rfl ⟨(by rw [hwd]; exact (HTd.out.cells HE.out.1).1), (by rw [hwd]; exact (HTd.out.cells HE.out.1).2.1), (by rw [hwd]; exact (HTd.out.cells HE.out.1).2.2.1), (by rw [hwd]; exact (HTd.out.cells HE.out.1).2.2.2)⟩ (fun hHeld => ?_)
          rw [hwd] at hHeld ⊢
          refine with_tabW tb6_21.tab21 tb6_21.bits21 (fun HT_ HW_ => ?_)
          refine pw_ 1 116 (bA 10 2) HT_.out ?_
          refine pw_ 3 118 (bA 10 10) HT_.out ?_
          refine pw_ 4 119 (bA 10 26) HT_.out ?_
          refine pw_ 5 120 (bA 10 58) HT_.out ?_
          refine tw_ 6 121 (bA 10 122) HT_.out HW_.out hHeld (hv := by rintro w' ⟨s0, s1, s2, s3⟩; go_simp; with_reducible rfl) (h := ?_)
          refine join_ (σ := Value × Value × Value) 2 (bA 10 255) (fun s => [(115, s.1), (117, s.2.1), (122, s.2.2)]) (fun s w' => ∃ gl, One wd 43 4 s.2.1 n1 (dsC ds) w' ∧ s.2.2 = .slice (some ⟨gl, 0, none⟩) 1 1 ∧ At w' gl [.int .i64 v, .bool f, .int .u32 (b : Int), .int .i64 ed] 43) ?_ ?_
          rotate_left
          · intro hCont
            refine two_ (i := 0) (j := 7) (Ni := some 115) (Nj := some 122) (bA 10 123) (bA 10 250) rfl rfl rfl rfl (two_of HT_.out (by kernel_rfl)) (by decide) (by decide) (fun K hK => ?_) (fun K hK => ?_)
            · skip
              refine value_ (w1 := ?_) (v := ?_) (by rfl) rfl ?_ ?_
              rotate_left 2
              · go_simp
                constructor
                · rfl
                · rfl
              have HO0 := Lib.hid (show One wd 43 4 (.slice (some ⟨wd.heap.size, 0, none⟩) 0 0) 0 [] (wd.alloc (.cells #[] 43)) from ⟨own_made rfl (Nat.le_refl _), ((Below.refl wd.heap.size wd).alloc (Nat.le_refl _) (.cells #[] 43))⟩)
              have HTN := Lib.hid (HTd.out.below HO0.out.b)
              refine hK.out _ _ ⟨(HTN.out.cells HE.out.1).1, (HTN.out.cells HE.out.1).2.1, (HTN.out.cells HE.out.1).2.2.1, (HTN.out.cells HE.out.1).2.2.2⟩ (fun hHeld => ?_)
              clear hK K
              refine norm_ (a' := ?_) ?_ ?_
              rotate_left
              · show Act.put _ (some 115) _ = _
                simp only [Act.put, pA, pB, pC, pD, pE]; rfl
              refine two_ (i := 2) (j := 7) (Ni := some 117) (Nj := some 122) (bA 10 127) (bA 10 251) rfl rfl rfl rfl (two_of HT_.out (by kernel_rfl)) (by decide) (by decide) (fun K hK => ?_) (fun K hK => ?_)
              · skip
                refine step_append_any rfl (.tmp 115) (.tmp 116) 40 rfl wd.heap.size 43 i5 (.agg #[.int .i64 0, .bool false, .int .u32 0, .int .i64 0]) 4 24 Try.underlying40 hi5 hz5 hs5 hy5 rfl (by omega) _ 0 [] rfl HO0.out.r _ rfl n1 (dsC ds) (rdV_own HTN.out.l (dsC_one ds)) (by unfold maxLen; omega) (by omega) HO0.out.b.size ?_
                intro v5 w5 ho hg hn
                have HO5 := Lib.hid (HO0.out.grow ho hg)
                rw [Nat.zero_add, List.nil_append] at HO5
                have HTN := Lib.hid (HTd.out.below HO5.out.b)
                clear ho hg hn
                refine hK.out _ _ ⟨(HTN.out.cells HE.out.1).1, (HTN.out.cells HE.out.1).2.1, (HTN.out.cells HE.out.1).2.2.1, (HTN.out.cells HE.out.1).2.2.2⟩ (fun hHeld => ?_)
                clear hK K
                refine norm_ (a' := ?_) ?_ ?_
                rotate_left
                · show Act.put _ (some 117) _ = _
                  simp only [Act.put, pA, pB, pC, pD, pE]; rfl
                refine one_ (i := 7) (N := some 122) (bA 10 255) rfl rfl (one_of HT_.out (by kernel_rfl)) (by decide) (fun K hK => ?_)
                refine value_ (w1 := ?_) (v := ?_) (by rfl) rfl ?_ ?_
                rotate_left 2
                · go_simp
                  constructor
                  · rfl
                  · rfl
                have HL := Lib.hid (show At (w5.alloc (.cells #[.int .i64 v, .bool f, .int .u32 (b : Int), .int .i64 ed] 43)) w5.heap.size [.int .i64 v, .bool f, .int .u32 (b : Int), .int .i64 ed] 43 from At.made rfl rfl)
                have HO5 := Lib.hid (HO5.out.below ((Below.refl w5.heap.size w5).alloc (Nat.le_refl _) (.cells #[.int .i64 v, .bool f, .int .u32 (b : Int), .int .i64 ed] 43)))
                have HTN := Lib.hid (HTd.out.below HO5.out.b)
                refine hK.out _ _ ⟨(HTN.out.cells HE.out.1).1, (HTN.out.cells HE.out.1).2.1, (HTN.out.cells HE.out.1).2.2.1, (HTN.out.cells HE.out.1).2.2.2⟩ (fun hHeld => ?_)
                clear hK K
                refine norm_ (a' := ?_) ?_ ?_
                rotate_left
                · show Act.put _ (some 122) _ = _
                  simp only [Act.put, pA, pB, pC, pD, pE]; rfl
                exact norm_ (by simp only [putAll, Act.put, List.setIfInBounds_toArray, List.set_cons_zero, List.set_cons_succ]) (hCont (.slice (some ⟨wd.heap.size, 0, none⟩) 0 0, v5, .slice (some ⟨w5.heap.size, 0, none⟩) 1 1) _ ⟨_, HO5.out, rfl, HL.out⟩)
              · skip
                refine value_ (w1 := ?_) (v := ?_) (by rfl) rfl ?_ ?_
                rotate_left 2
                · go_simp
                  constructor
                  · rfl
                  · rfl
                have HL := Lib.hid (show At ((wd.alloc (.cells #[] 43)).alloc (.cells #[.int .i64 v, .bool f, .int .u32 (b : Int), .int .i64 ed] 43)) (wd.heap.size + 1) [.int .i64 v, .bool f, .int .u32 (b : Int), .int .i64 ed] 43 from At.made (by simp) rfl)
                have HO0 := Lib.hid (HO0.out.below ((Below.refl (wd.alloc (.cells #[] 43)).heap.size (wd.alloc (.cells #[] 43))).alloc (Nat.le_refl _) (.cells #[.int .i64 v, .bool f, .int .u32 (b : Int), .int .i64 ed] 43)))
                have HTN := Lib.hid (HTd.out.below HO0.out.b)
                refine hK.out _ _ ⟨(HTN.out.cells HE.out.1).1, (HTN.out.cells HE.out.1).2.1, (HTN.out.cells HE.out.1).2.2.1, (HTN.out.cells HE.out.1).2.2.2⟩ (fun hHeld => ?_)
                clear hK K
                refine norm_ (a' := ?_) ?_ ?_
                rotate_left
                · show Act.put _ (some 122) _ = _
                  simp only [Act.put, pA, pB, pC, pD, pE]; rfl
                refine one_ (i := 2) (N := some 117) (bA 10 255) rfl rfl (one_of HT_.out (by kernel_rfl)) (by decide) (fun K hK => ?_)
                refine step_append_any rfl (.tmp 115) (.tmp 116) 40 rfl wd.heap.size 43 i5 (.agg #[.int .i64 0, .bool false, .int .u32 0, .int .i64 0]) 4 24 Try.underlying40 hi5 hz5 hs5 hy5 rfl (by omega) _ 0 [] rfl HO0.out.r _ rfl n1 (dsC ds) (rdV_own HTN.out.l (dsC_one ds)) (by unfold maxLen; omega) (by omega) HO0.out.b.size ?_
                intro v5 w5 ho hg hn
                have HO5 := Lib.hid (HO0.out.grow ho hg)
                rw [Nat.zero_add, List.nil_append] at HO5
                have hg2 : World.grownBy _ w5 (some (wd.heap.size)) := hg
                have HL := Lib.hid (HL.out.grown hg2 (by simp))
                clear hg2
                have HTN := Lib.hid (HTd.out.below HO5.out.b)
                clear ho hg hn
                refine hK.out _ _ ⟨(HTN.out.cells HE.out.1).1, (HTN.out.cells HE.out.1).2.1, (HTN.out.cells HE.out.1).2.2.1, (HTN.out.cells HE.out.1).2.2.2⟩ (fun hHeld => ?_)
                clear hK K
                refine norm_ (a' := ?_) ?_ ?_
                rotate_left
                · show Act.put _ (some 117) _ = _
                  simp only [Act.put, pA, pB, pC, pD, pE]; rfl
                exact norm_ (by simp only [putAll, Act.put, List.setIfInBounds_toArray, List.set_cons_zero, List.set_cons_succ]) (hCont (.slice (some ⟨wd.heap.size, 0, none⟩) 0 0, v5, .slice (some ⟨wd.heap.size + 1, 0, none⟩) 1 1) _ ⟨_, HO5.out, rfl, HL.out⟩)
            · skip
              refine value_ (w1 := ?_) (v := ?_) (by rfl) rfl ?_ ?_
              rotate_left 2
              · go_simp
                constructor
                · rfl
                · rfl
              have HL := Lib.hid (show At (wd.alloc (.cells #[.int .i64 v, .bool f, .int .u32 (b : Int), .int .i64 ed] 43)) wd.heap.size [.int .i64 v, .bool f, .int .u32 (b : Int), .int .i64 ed] 43 from At.made rfl rfl)
              have HTN := Lib.hid (HTd.out.below ((Below.refl wd.heap.size wd).alloc (Nat.le_refl _) (.cells #[.int .i64 v, .bool f, .int .u32 (b : Int), .int .i64 ed] 43)))
              refine hK.out _ _ ⟨(HTN.out.cells HE.out.1).1, (HTN.out.cells HE.out.1).2.1, (HTN.out.cells HE.out.1).2.2.1, (HTN.out.cells HE.out.1).2.2.2⟩ (fun hHeld => ?_)
              clear hK K
              refine norm_ (a' := ?_) ?_ ?_
              rotate_left
              · show Act.put _ (some 122) _ = _
                simp only [Act.put, pA, pB, pC, pD, pE]; rfl
              refine one_ (i := 0) (N := some 115) (bA 10 251) rfl rfl (one_of HT_.out (by kernel_rfl)) (by decide) (fun K hK => ?_)
              refine value_ (w1 := ?_) (v := ?_) (by rfl) rfl ?_ ?_
              rotate_left 2
              · go_simp
                constructor
                · rfl
                · rfl
              have HO0 := Lib.hid (show One wd 43 4 (.slice (some ⟨wd.heap.size + 1, 0, none⟩) 0 0) 0 [] ((wd.alloc (.cells #[.int .i64 v, .bool f, .int .u32 (b : Int), .int .i64 ed] 43)).alloc (.cells #[] 43)) from ⟨own_made (by simp) (by simp), ((Below.refl wd.heap.size wd).alloc (Nat.le_refl _) (.cells #[.int .i64 v, .bool f, .int .u32 (b : Int), .int .i64 ed] 43)).alloc (by simp) (.cells #[] 43)⟩)
              have HL := Lib.hid (HL.out.al (o := (.cells #[] 43)))
              have HTN := Lib.hid (HTd.out.below HO0.out.b)
              refine hK.out _ _ ⟨(HTN.out.cells HE.out.1).1, (HTN.out.cells HE.out.1).2.1, (HTN.out.cells HE.out.1).2.2.1, (HTN.out.cells HE.out.1).2.2.2⟩ (fun hHeld => ?_)
              clear hK K
              refine norm_ (a' := ?_) ?_ ?_
              rotate_left
              · show Act.put _ (some 115) _ = _
                simp only [Act.put, pA, pB, pC, pD, pE]; rfl
              refine one_ (i := 2) (N := some 117) (bA 10 255) rfl rfl (one_of HT_.out (by kernel_rfl)) (by decide) (fun K hK => ?_)
              refine step_append_any rfl (.tmp 115) (.tmp 116) 40 rfl wd.heap.size 43 i5 (.agg #[.int .i64 0, .bool false, .int .u32 0, .int .i64 0]) 4 24 Try.underlying40 hi5 hz5 hs5 hy5 rfl (by omega) _ 0 [] rfl HO0.out.r _ rfl n1 (dsC ds) (rdV_own HTN.out.l (dsC_one ds)) (by unfold maxLen; omega) (by omega) HO0.out.b.size ?_
              intro v5 w5 ho hg hn
              have HO5 := Lib.hid (HO0.out.grow ho hg)
              rw [Nat.zero_add, List.nil_append] at HO5
              have hg2 : World.grownBy _ w5 (some (wd.heap.size + 1)) := hg
              have HL := Lib.hid (HL.out.grown hg2 (by simp))
              clear hg2
              have HTN := Lib.hid (HTd.out.below HO5.out.b)
              clear ho hg hn
              refine hK.out _ _ ⟨(HTN.out.cells HE.out.1).1, (HTN.out.cells HE.out.1).2.1, (HTN.out.cells HE.out.1).2.2.1, (HTN.out.cells HE.out.1).2.2.2⟩ (fun hHeld => ?_)
              clear hK K
              refine norm_ (a' := ?_) ?_ ?_
              rotate_left
              · show Act.put _ (some 117) _ = _
                simp only [Act.put, pA, pB, pC, pD, pE]; rfl
              exact norm_ (by simp only [putAll, Act.put, List.setIfInBounds_toArray, List.set_cons_zero, List.set_cons_succ]) (hCont (.slice (some ⟨wd.heap.size + 1, 0, none⟩) 0 0, v5, .slice (some ⟨wd.heap.size, 0, none⟩) 1 1) _ ⟨_, HO5.out, rfl, HL.out⟩)
          rintro ⟨s1, s2, s3⟩ wc ⟨gl, g1, g2, g3⟩
          dsimp only at g1 g2
          subst g2
          have HG := Lib.hid (And.intro g1 g3)
          have hHeld := (HTd.out.below g1.b).cells HE.out.1
          clear g1 g3
          refine norm_ (a' := ?_) ?_ ?_
          rotate_left; · simp only [putAll, Act.put, List.setIfInBounds_toArray, List.set_cons_zero, List.set_cons_succ]; rfl
          refine last_ (i := 8) (N := some 123) (bA 10 511) rfl rfl (one_of HT_.out (by kernel_rfl)) (by decide) (fun K hK => ?_)
          refine step_append_any rfl (.tmp 117) (.tmp 122) 40 rfl wd.heap.size 43 i5 (.agg #[.int .i64 0, .bool false, .int .u32 0, .int .i64 0]) 4 24 Try.underlying40 hi5 hz5 hs5 hy5 rfl (by omega) _ _ _ rfl HG.out.1.r _ rfl 1 [.int .i64 v, .bool f, .int .u32 (b : Int), .int .i64 ed] (rdV_at4 HG.out.2 rfl (by simp [Value.oneCell'])) (by unfold maxLen; omega) (by omega) HG.out.1.b.size ?_
          intro vb wb ho hg hn
          have HN := Lib.hid (HG.out.1.grow ho hg)
          clear ho hg hn HG; refine hK.out _ _ ?_; clear hK K
          refine norm_ (a' := ?_) ?_ ?_
          rotate_left
          · show Act.put _ (some 123) _ = _
            simp only [Act.put, pA, pB, pC, pD, pE]; rfl
          refine pw_ 9 15 (bA 10 1023) HT_.out ?_
          refine done_ (done_of HT_.out (by kernel_rfl)) ?_
          clear hHeld HT_ HW_; clear hwd
          have hbo := HN.out.r
          rw [show (dsC ds ++ [Value.int .i64 v, Value.bool f, Value.int .u32 (b : Int), Value.int .i64 ed]) = dsC (ds ++ [(v, f, b, ed)]) by rw [dsC_append]; rfl] at hbo
          obtain ⟨A15, c15, rfl⟩ := Lw.own_slice hbo
          have HN4 := Lib.hid (And.intro (HTd.out.below HN.out.b) (And.intro (HRd.out.1.below HN.out.b) (And.intro (HRd.out.2.below HN.out.b) (rdS_own hbo).1)))
          clear hbo HN HTd HRd
          refine gen_then (fun W => TuM w W (some ⟨b2, 0, none⟩) A3 gx w4.heap.size g10 n1 c10 L E xv xf xb xe ds ∧ RdS W (some ⟨g13, 0, none⟩) (ds.set i (v, !f, b, ed)) ∧ RdS W A14 (ds.take i ++ ds.drop (i + 1)) ∧ RdS W A15 (ds ++ [(v, f, b, ed)])) HN4.out ?_
          clear HN4
          rintro w10 ⟨hT10, hr10, hs10, ht10⟩
          have HT10 := Lib.hid (And.intro hT10 (And.intro hr10 (And.intro hs10 ht10)))
          have HRV := Lib.hid (rdV_own hT10.l (dsC_one ds))
          clear hT10 hr10 hs10 ht10
          go_upto_region 23 with ((at_builtin; (refine wpList_append_any rfl (.tmp 124) (.tmp 125) 40 rfl w10.heap.size 43 i5 (.agg #[.int .i64 0, .bool false, .int .u32 0, .int .i64 0]) 4 24 Try.underlying40 hi5 hz5 hs5 hy5 rfl (by omega) _ 0 [] rfl (own_made rfl (Nat.le_refl _)) _ rfl n1 (dsC ds) (HRV.out.below ((Below.refl _ _).alloc (Nat.le_refl _) (.cells #[] 43))) (by unfold maxLen; omega) (by omega) (by simp) ?_; intro vn wn ho hg hn; have HN := Lib.hid ((One.make (Below.refl _ _) (own_made (T := 43) (size := 4) rfl (Nat.le_refl _)) ((Below.refl w10.heap.size w10).alloc (Nat.le_refl _) (.cells #[] 43))).grow ho hg); clear ho hg hn; rw [Nat.zero_add, List.nil_append] at HN)))
          obtain ⟨g16, c16, rfl, hg16, _⟩ := HN.out.r.form (by omega)
          have x3 := (HT10.out.1.below HN.out.b).x.cell 3 rfl
          have hck := (HN.out.r.cellAt (i * 4 + 3) (by omega)).trans (dsC_at ds i v f b ed HE.out.1).2.2.2
          have hfr := HN.out.r.frozenAt (i * 4 + 3)
          go_upto_region 24 with (fail)
          obtain ⟨m7, hm7, m70, m77⟩ := and7 xe
          rw [hm7, show wrap64 (-1 - m7) = -1 - m7 by unfold wrap64; omega]
          clear x3 hck hfr hm7
          have hst := (HN.out.r.stored (i * 4 + 3) (.int .i64 (-1 - m7))).1
          rw [dsC_set3 ds i v f b ed (-1 - m7) HE.out.1] at hst
          have hbk := HN.out.b.setCell (p := ⟨g16, i * 4 + 3, none⟩) hg16 (.int .i64 (-1 - m7))
          have HN5 := Lib.hid (And.intro (HT10.out.1.below hbk) (And.intro (HT10.out.2.1.below hbk) (And.intro (HT10.out.2.2.1.below hbk) (And.intro (HT10.out.2.2.2.below hbk) (rdS_own hst).1))))
          clear hst hbk HN HT10 HRV
          refine gen_world (fun W => TuM w W (some ⟨b2, 0, none⟩) A3 gx w4.heap.size g10 n1 c10 L E xv xf xb xe ds ∧ RdS W (some ⟨g13, 0, none⟩) (ds.set i (v, !f, b, ed)) ∧ RdS W A14 (ds.take i ++ ds.drop (i + 1)) ∧ RdS W A15 (ds ++ [(v, f, b, ed)]) ∧ RdS W (some ⟨g16, 0, none⟩) (ds.set i (v, f, b, -1 - m7))) HN5.out ?_
          clear HN5
          intro w11 hM
          have HM := Lib.hid hM
          clear hM
          have hset : ∀ (y : Ds), y.2.2.1 < 4294967296 → ∀ p ∈ ds.set i y, p.2.2.1 < 4294967296 := fun y hy p hp => by
            rcases List.mem_or_eq_of_mem_set hp with hp | rfl
            · exact HD32.out p hp
            · exact hy
          have hb32 : b < 4294967296 := HD32.out _ (List.mem_of_getElem? HE.out.1)
          have HL := Lib.hid (And.intro HD.out.2.2.2.2.2.1 (And.intro HD.out.2.2.2.2.2.2.1 HD.out.2.2.2.2.2.2.2))
          have HC1 := Lib.hid (fun (W : World) (h : TuM w W (some ⟨b2, 0, none⟩) A3 gx w4.heap.size g10 n1 c10 L E xv xf xb xe ds) => h.tree (c2 := c2) (c3 := c3) (c := c10) (s := s) (nl := n1) (ans := true) (rdS_own h.l).1 HL.out.1 (by omega) HL.out.2.1 (by omega) HL.out.2.2 HD32.out HD.out.2.1 (by
            rw [← HD.out.1]
            exact tree_taken HD.out.2.2.2.1 HD.out.2.2.1))
          have HC2 := Lib.hid (fun (W : World) (h : TuM w W (some ⟨b2, 0, none⟩) A3 gx w4.heap.size g10 n1 c10 L E xv xf xb xe ds) (hr : RdS W (some ⟨g13, 0, none⟩) (ds.set i (v, !f, b, ed))) => h.tree (c2 := c2) (c3 := c3) (c := c13) (s := s) (nl := n1) (ans := false) hr HL.out.1 (by omega) HL.out.2.1 (by omega) HL.out.2.2 (hset _ hb32) (by rw [List.length_set]; exact HD.out.2.1) (by
            rw [← HD.out.1]
            exact turned_far HD.out.2.2.2.1 HD.out.2.2.1 HE.out.2.1 HE.out.2.2))
          have HC3 := Lib.hid (fun (W : World) (h : TuM w W (some ⟨b2, 0, none⟩) A3 gx w4.heap.size g10 n1 c10 L E xv xf xb xe ds) (hr : RdS W A14 (ds.take i ++ ds.drop (i + 1))) => h.tree (c2 := c2) (c3 := c3) (c := c14) (s := s) (nl := nd) (ans := false) hr HL.out.1 (by omega) HL.out.2.1 (by omega) HL.out.2.2 (fun p hp => by
            rcases List.mem_append.1 hp with hp | hp
            · exact HD32.out p (List.mem_of_mem_take hp)
            · exact HD32.out p (List.mem_of_mem_drop hp)) HND.out.1 (tree_len (by rw [HND.out.1, HL.out.1]; exact HND.out.2)))
          have HC4 := Lib.hid (fun (W : World) (h : TuM w W (some ⟨b2, 0, none⟩) A3 gx w4.heap.size g10 n1 c10 L E xv xf xb xe ds) (hr : RdS W A15 (ds ++ [(v, f, b, ed)])) => h.tree (c2 := c2) (c3 := c3) (c := c15) (s := s) (nl := n1 + 1) (ans := false) hr HL.out.1 (by omega) HL.out.2.1 (by omega) HL.out.2.2 (fun p hp => by
            rcases List.mem_append.1 hp with hp | hp
            · exact HD32.out p hp
            · obtain rfl : p = (v, f, b, ed) := by simpa using hp
              exact hb32) (by rw [List.length_append, HD.out.2.1]; rfl) (tree_len (by rw [List.length_append, HD.out.2.1, HL.out.1, List.length_singleton]; omega)))
          have HC5 := Lib.hid (fun (W : World) (h : TuM w W (some ⟨b2, 0, none⟩) A3 gx w4.heap.size g10 n1 c10 L E xv xf xb xe ds) (hr : RdS W (some ⟨g16, 0, none⟩) (ds.set i (v, f, b, -1 - m7))) => h.tree (c2 := c2) (c3 := c3) (c := c16) (s := s) (nl := n1) (ans := false) hr HL.out.1 (by omega) HL.out.2.1 (by omega) HL.out.2.2 (hset _ hb32) (by rw [List.length_set]; exact HD.out.2.1) (by
            rw [← HD.out.1]
            exact turned_edge (e := 0) HD.out.2.2.2.1 HE.out.2.1 (by omega)))
          clear hset hb32 HD HD32 HE HND HL m70 m77
          go_wp2_with fail
          refine (HC1.out _ HM.out.1).mono ?_
          rintro e12 w12 ⟨rfl, hb12⟩
          have HM2 := Lib.hid (And.intro (HM.out.1.below hb12) (And.intro (HM.out.2.1.below hb12) (And.intro (HM.out.2.2.1.below hb12) (And.intro (HM.out.2.2.2.1.below hb12) (HM.out.2.2.2.2.below hb12)))))
          clear hb12 HM HC1
          go_wp2_with fail
          refine (HC2.out _ HM2.out.1 HM2.out.2.1).mono ?_
          rintro e13 w13 ⟨rfl, hb13⟩
          have HM3 := Lib.hid (And.intro (HM2.out.1.below hb13) (And.intro (HM2.out.2.2.1.below hb13) (And.intro (HM2.out.2.2.2.1.below hb13) (HM2.out.2.2.2.2.below hb13))))
          clear hb13 HM2 HC2
          go_wp2_with fail
          refine (HC3.out _ HM3.out.1 HM3.out.2.1).mono ?_
          rintro e14 w14 ⟨rfl, hb14⟩
          have HM4 := Lib.hid (And.intro (HM3.out.1.below hb14) (And.intro (HM3.out.2.2.1.below hb14) (HM3.out.2.2.2.below hb14)))
          clear hb14 HM3 HC3
          go_wp2_with fail
          refine (HC4.out _ HM4.out.1 HM4.out.2.1).mono ?_
          rintro e15 w15 ⟨rfl, hb15⟩
          have HM5 := Lib.hid (And.intro (HM4.out.1.below hb15) (HM4.out.2.2.below hb15))
          clear hb15 HM4 HC4
          go_wp2_with fail
          refine (HC5.out _ HM5.out.1 HM5.out.2).mono ?_
          rintro e16 w16 ⟨rfl, hb16⟩
          have HB := Lib.hid (HM5.out.1.below hb16).b
          clear hb16 HM5 HC5
          go_wp2
          go_ret
          exact ⟨rfl, HB.out⟩
end Go.Proofs.Ytgihncjllelonaa.Ce
