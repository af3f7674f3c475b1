/- CertOwn, walked. -/
import Derived.Test.YtgihncjllelonaaHo5
import Derived.Test.YtgihncjllelonaaHo33
namespace Go.Proofs.Ytgihncjllelonaa.Ce
open Go Go.RowKit Go.MapKept Go.Proofs.Ytgihncjllelonaa.Mem Go.Proofs.Ytgihncjllelonaa.Sl Go.Proofs.Ytgihncjllelonaa.Lw Go.Proofs.Ytgihncjllelonaa.Wt Go.Proofs.Ytgihncjllelonaa.Tb Go.Proofs.Ytgihncjllelonaa.Scc Go.Proofs.Ytgihncjllelonaa.Tj Go.Proofs.Ytgihncjllelonaa.Cf Go.Proofs.YtgihncjllelonaaW.PrintWords Go.Proofs.YtgihncjllelonaaW.PrintLast
attribute [local go_sem ↓] Go.wp_at_zero Go.wp_at_succ
set_option linter.unusedSimpArgs false
set_option linter.unusedVariables false
def tb5_14.T14 : Bool × List (List Nat × List Nat) := (true, [([], []), ([], []), ([], []), ([1, 2], [1, 2]), ([3], [3]), ([], []), ([], []), ([5, 6], [5, 6]), ([7], [7]), ([8], [8]), ([4, 9], [4, 9]), ([10], [10]), ([0, 11], [0, 11]), ([12, 12, 0, 1, 2, 3, 4, 5, 6, 7, 8, 9, 10, 11, 12], [0, 12])])
def tb5_14.B14 : List Nat := [0, 0, 0, 6, 14, 0, 0, 96, 224, 480, 1022, 2046, 4095, 8191]
theorem tb5_14.tab14 : rtab .any (opsOf Try.f5 14) = tb5_14.T14 := by kernel_rfl
theorem tb5_14.bits14 : waitsOk tb5_14.T14.2 tb5_14.B14 = true := by kernel_rfl
def tb5_18.T18 : Bool × List (List Nat × List Nat) := (true, [([], []), ([], []), ([1], [1]), ([0, 2], [0, 2]), ([], []), ([], []), ([5], [5]), ([4, 6], [4, 6]), ([], []), ([3, 7, 8], [3, 7, 8])])
def tb5_18.B18 : List Nat := [0, 0, 2, 7, 0, 0, 32, 112, 0, 511]
theorem tb5_18.tab18 : rtab .any (opsOf Try.f5 18) = tb5_18.T18 := by kernel_rfl
theorem tb5_18.bits18 : waitsOk tb5_18.T18.2 tb5_18.B18 = true := by kernel_rfl
def tb5_19.T19 : Bool × List (List Nat × List Nat) := (true, [([], []), ([], []), ([1], [1]), ([0, 2], [0, 2]), ([], []), ([], []), ([5], [5]), ([6], [6]), ([7], [7]), ([3, 4, 8], [3, 4, 8])])
def tb5_19.B19 : List Nat := [0, 0, 2, 7, 0, 0, 32, 96, 224, 511]
theorem tb5_19.tab19 : rtab .any (opsOf Try.f5 19) = tb5_19.T19 := by kernel_rfl
theorem tb5_19.bits19 : waitsOk tb5_19.T19.2 tb5_19.B19 = true := by kernel_rfl
def tb5_25.T25 : Bool × List (List Nat × List Nat) := (true, [([], []), ([], []), ([0, 1], [0, 1]), ([2], [2]), ([], []), ([], []), ([4, 5], [4, 5]), ([6], [6]), ([3, 7], [3, 7])])
def tb5_25.B25 : List Nat := [0, 0, 3, 7, 0, 0, 48, 112, 255]
theorem tb5_25.tab25 : rtab .any (opsOf Try.f5 25) = tb5_25.T25 := by kernel_rfl
theorem tb5_25.bits25 : waitsOk tb5_25.T25.2 tb5_25.B25 = true := by kernel_rfl
def tb5_31.T31 : Bool × List (List Nat × List Nat) := (true, [([], []), ([], []), ([0, 1], [0, 1]), ([2], [2]), ([], []), ([], []), ([4, 5], [4, 5]), ([6], [6]), ([7], [7]), ([3, 8], [3, 8]), ([9], [9]), ([10], [10])])
def tb5_31.B31 : List Nat := [0, 0, 3, 7, 0, 0, 48, 112, 240, 511, 1023, 2047]
theorem tb5_31.tab31 : rtab .any (opsOf Try.f5 31) = tb5_31.T31 := by kernel_rfl
theorem tb5_31.bits31 : waitsOk tb5_31.T31.2 tb5_31.B31 = true := by kernel_rfl
def tb5_36.T36 : Bool × List (List Nat × List Nat) := (true, [([], []), ([], []), ([0, 1], [0, 1]), ([2], [2]), ([], []), ([3, 4], [3, 4]), ([5], [5]), ([], []), ([], []), ([7, 8], [7, 8]), ([9], [9]), ([], []), ([10, 11], [10, 11]), ([12], [12]), ([6, 13], [6, 13])])
def tb5_36.B36 : List Nat := [0, 0, 3, 7, 0, 31, 63, 0, 0, 384, 896, 0, 3968, 8064, 16383]
theorem tb5_36.tab36 : rtab .any (opsOf Try.f5 36) = tb5_36.T36 := by kernel_rfl
theorem tb5_36.bits36 : waitsOk tb5_36.T36.2 tb5_36.B36 = true := by kernel_rfl
set_option maxHeartbeats 16000000 in
set_option maxRecDepth 100000 in
theorem certOwn_calls (w : World) (a1 a2 : Value) (Ac : Option Addr) (cc : Nat) (l : List Int) (es : List Ed) (comps : List (List Int)) (h1 : ArgV w a1 l.length 1 (ints l)) (h2 : ArgV w a2 es.length 4 (edsC es)) (hbit : ∀ p ∈ es, p.2.2.2 < 4294967296) (h3 : RdLV w Ac comps) (hcl : comps.length ≤ 1048576) :
    Calls Try.prog 5 #[a1, a2, .slice Ac comps.length cc] w fun e w' => e = .returned (.bool true) ∧ Below w.heap.size w w' := by
  obtain ⟨i1, hi1, hz1, hs1, hy1⟩ := info_parts Lw.info_int
  obtain ⟨i2, hi2, hz2, hs2, hy2⟩ := info_parts Lw.info_arc
  obtain ⟨i3, hi3, hz3, hs3, hy3⟩ := info_parts info_ints
  obtain ⟨nc, hnc⟩ : ∃ n, comps.length = n := ⟨_, rfl⟩
  rw [hnc] at hcl ⊢
  have HH := Lib.hid (And.intro h1 (And.intro h2 (And.intro h3 (And.intro hnc hbit))))
  clear h1 h2 h3 hnc hbit
  go_enter Try.func5, Try.ntmps5
  go_wp2_with fail
  refine (awake_calls _).mono ?_
  rintro e w1 ⟨rfl, hb1⟩
  have HB1 := Lib.hid hb1
  clear hb1
  go_wp2_with fail
  refine (cutVs_calls w1 a1 l.length (ints l) (HH.out.1.below HB1.out)).mono ?_
  rintro e w2 ⟨v2, rfl, ho2⟩
  have HO2 := Lib.hid ho2
  clear ho2
  go_wp2_with fail
  refine (cutEdges_calls w2 a2 es.length (edsC es) ((HH.out.2.1.below HB1.out).below HO2.out.b)).mono ?_
  rintro e w3 ⟨v3, rfl, ho3⟩
  obtain ⟨L, hL⟩ : ∃ L, l.take 30 = L := ⟨_, rfl⟩
  obtain ⟨E, hE⟩ : ∃ E, es.take 120 = E := ⟨_, rfl⟩
  obtain ⟨nL, hnL⟩ : ∃ n, L.length = n := ⟨_, rfl⟩
  obtain ⟨nE, hnE⟩ : ∃ n, E.length = n := ⟨_, rfl⟩
  have hLn : nL ≤ 30 := by rw [← hnL, ← hL, List.length_take]; omega
  have hEn : nE ≤ 120 := by rw [← hnE, ← hE, List.length_take]; omega
  have hLe : min l.length 30 = nL := by rw [← hnL, ← hL, List.length_take]; omega
  have hEe : min es.length 120 = nE := by rw [← hnE, ← hE, List.length_take]; omega
  have ho2 := HO2.out.r
  have ho3' := ho3.r
  rw [Nat.mul_one, ints_take, min_take, hL, hLe] at ho2
  rw [edsC_take, min_take, hE, hEe] at ho3'
  obtain ⟨A2, c2, rfl⟩ := Lw.own_slice ho2
  obtain ⟨A3, c3, rfl⟩ := Lw.own_slice ho3'
  have hrv := (RdI.of_own ho2).1
  have hra := (RdD.of_own ho3').1
  have HB3 := Lib.hid (HB1.out.trans ((HO2.out.b.trans (ho3.b.mono HO2.out.b.size)).mono HB1.out.size))
  have HC := Lib.hid (And.intro (hrv.below ho3.b) (And.intro hra (And.intro (HH.out.2.2.1.below HB3.out) (And.intro hnL (And.intro hnE (And.intro (show ∀ p ∈ E, p.2.2.2 < 4294967296 from fun p hp => HH.out.2.2.2.2 p (by rw [← hE] at hp; exact List.mem_of_mem_take hp)) (show A2 = none → c2 = 0 from fun h => by
    subst h
    rcases ho2.2 with ⟨e, _⟩ | ⟨g, cap, cur, e, _⟩
    · cases e
      rfl
    · cases e)))))))
  have HNC := Lib.hid HH.out.2.2.2.1
  clear ho2 ho3 ho3' hrv hra HO2 HB1 HH hL hE hnL hnE hLe hEe
  go_wp2_with fail
  go_loopg [7, 9, 25] (nc + 1) (fun kq v7 v9 v25 w' => ∃ j : Nat, v25 = .int .i64 (j : Int) ∧ Hid (j + kq = nc + 1 ∧ j ≤ nc ∧ ∃ vals, Gr w3 w' v7 vals ((comps.take j).map (· ++ [-7]))))
  case atStart => exact ⟨0, rfl, Lib.hid ⟨by omega, by omega, [], Gr.start⟩⟩
  case round =>
    obtain ⟨j, rfl, hJ⟩ := hrel
    obtain ⟨hjk, hjn, vals, hG⟩ := hJ.out
    clear hJ
    by_cases hj : j < nc
    · obtain ⟨k1, rfl⟩ : ∃ k1, gk = k1 + 1 := ⟨gk - 1, by omega⟩
      obtain ⟨r, hx⟩ : ∃ x, comps[j]? = some x := ⟨_, List.getElem?_eq_getElem (by have := HNC.out; omega)⟩
      obtain ⟨b, off, B, cr, hA, cx, hro, hBn, hrl⟩ := (HC.out.2.2.1.below hG.b) j r hx
      subst hA
      have hvl : vals.length = j := by
        rw [hG.n, List.length_map, List.length_take]
        have := HNC.out
        omega
      have ho9 := hG.o
      rw [hvl] at ho9
      obtain ⟨A9, c9, rfl⟩ := Lw.own_slice ho9
      have hrv := rdV_O (c := cr) hro hBn
      obtain ⟨nr, hnr⟩ : ∃ n, r.length = n := ⟨_, rfl⟩
      rw [hnr] at hrv cx hrl
      have HRV := Lib.hid hrv
      have HG0 := Lib.hid hG
      have HS := Lib.hid (And.intro hjk (And.intro hx (And.intro hvl hnr)))
      have HX5 := Lib.hid (fun (v5 : Value) (w5 : World) (ho : w5.ownsRow w3.heap.size 3 1 v5 (0 + nr) ([] ++ ints r)) (hg : (wr.alloc (.cells #[] 3)).grownBy w5 (Value.slice (some ⟨wr.heap.size, 0, none⟩) 0 0).ownBlock) (hn : v5.ownBlock = (Value.slice (some ⟨wr.heap.size, 0, none⟩) 0 0).ownBlock ∨ v5.ownBlock = some (wr.alloc (.cells #[] 3)).heap.size) =>
        show w5.ownsRow w3.heap.size 3 1 v5 nr (ints r) ∧ Gr w3 w5 (.slice A9 j c9) vals ((comps.take j).map (· ++ [-7])) ∧ ∀ k, v5.ownBlock = some k → wr.heap.size ≤ k from by
          rw [Nat.zero_add, List.nil_append] at ho
          refine ⟨ho, (hG.below ((Below.refl _ _).alloc (Nat.le_refl _) (.cells #[] 3))).beyond hG hg (fun k hk => by cases hk; exact Nat.le_refl _), fun k hk => ?_⟩
          rcases hn with e | e
          · rw [e] at hk
            cases hk
            exact Nat.le_refl _
          · rw [e] at hk
            cases hk
            simp)
      have HX6 := Lib.hid (fun (w6 : World) (h : Gr w3 w6 (.slice A9 j c9) vals ((comps.take j).map (· ++ [-7]))) => show w6.ownsRow w3.heap.size 22 1 (.slice A9 j c9) j vals from by
        have := h.o
        rwa [hvl] at this)
      have HX7 := Lib.hid (fun (A6 : Option Addr) (c6 : Nat) (w6 : World) (v7 : Value) (w7 : World) (h6 : w6.ownsRow w3.heap.size 3 1 (.slice A6 (nr + 1) c6) (nr + 1) (ints r ++ [.int .i64 (-7)])) (hG6 : Gr w3 w6 (.slice A9 j c9) vals ((comps.take j).map (· ++ [-7]))) (ho : w7.ownsRow w3.heap.size 22 1 v7 (j + 1) (vals ++ [.slice A6 (nr + 1) c6])) (hg : (w6.alloc (.cells #[.slice A6 (nr + 1) c6] 22)).grownBy w7 (Value.slice A9 j c9).ownBlock) => show ∃ vals, Gr w3 w7 v7 vals ((comps.take (j + 1)).map (· ++ [-7])) from by
        have ha := hG6.below ((Below.refl _ _).alloc (Nat.le_refl _) (.cells #[.slice A6 (nr + 1) c6] 22))
        have hx' := Lw.own_below h6 ((Below.refl _ _).alloc (Nat.le_refl _) (.cells #[.slice A6 (nr + 1) c6] 22))
        rw [ints_snoc] at hx'
        have := ha.push (l := r ++ [-7]) (by rw [List.length_append, hnr]; exact hx') hg (by rw [hvl]; exact ho)
        rw [List.take_add_one, hx, List.map_append]
        exact ⟨_, this⟩)
      have j0 : (0 : Int) ≤ (j : Int) := by omega
      have j1 : (j : Int) < (nc : Int) := by omega
      have HJ := Lib.hid (show j + 1 + k1 = nc + 1 ∧ j + 1 ≤ nc from ⟨by omega, by omega⟩)
      clear hG ho9 hjk hx hvl hnr hro hBn hrv hj
      go_wp2_with ((at_builtin; first | (refine wpList_append_any rfl (.tmp 30) (.tmp 31) 22 rfl w3.heap.size 3 i1 (.int .i64 0) 1 8 Try.underlying22 hi1 hz1 hs1 hy1 rfl (by omega) _ 0 [] rfl (own_made rfl HG0.out.b.size) _ rfl nr (ints r) (HRV.out.below ((Below.refl _ _).alloc (Nat.le_refl _) (.cells #[] 3))) (by unfold maxLen; omega) (by omega) (by have := HG0.out.b.size; simp; omega) ?_; intro v5 w5 ho hg hn; have HN5 := Lib.hid (HX5.out v5 w5 ho hg hn); clear ho hg hn; obtain ⟨A5, c5, rfl⟩ := Lw.own_slice HN5.out.1) | (refine wpList_append_any rfl (.tmp 32) (.tmp 33) 22 rfl w3.heap.size 3 i1 (.int .i64 0) 1 8 Try.underlying22 hi1 hz1 hs1 hy1 rfl (by omega) _ _ _ rfl (HN5.out.1.alloc (.cells #[.int .i64 (-7)] 3)) _ rfl 1 [.int .i64 (-7)] (RdV.lit w5 #[.int .i64 (-7)] 3 1 1 1 rfl (by simp [Value.oneCell'])) (by unfold maxLen; omega) (by omega) (by have := HN5.out.2.1.b.size; simp; omega) ?_; intro v6 w6 ho hg hn; have HN6 := Lib.hid (And.intro ho ((HN5.out.2.1.below ((Below.refl _ _).alloc (Nat.le_refl _) (.cells #[.int .i64 (-7)] 3))).beyond HG0.out hg HN5.out.2.2)); clear ho hg hn; obtain ⟨A6, c6, rfl⟩ := Lw.own_slice HN6.out.1; have HO6 := Lib.hid (HX6.out _ HN6.out.2)) | (refine wpList_append_any rfl (.tmp 29) (.tmp 35) 24 rfl w3.heap.size 22 i3 (.slice none 0 0) 1 24 Try.underlying24 hi3 hz3 hs3 hy3 rfl (by omega) _ _ _ rfl (HO6.out.alloc (.cells #[.slice A6 (nr + 1) c6] 22)) _ rfl 1 [.slice A6 (nr + 1) c6] (RdV.lit w6 #[.slice A6 (nr + 1) c6] 22 1 1 1 rfl (by simp [Value.oneCell'])) (by unfold maxLen; omega) (by omega) (by have := HN6.out.2.b.size; simp; omega) ?_; intro v7 w7 ho hg hn; have HN7 := Lib.hid (HX7.out A6 c6 w6 v7 w7 HN6.out.1 HN6.out.2 ho hg); clear ho hg hn)))
      go_roundg k1
      case measure => omega
      case rel => exact ⟨j + 1, by go_num, Lib.hid ⟨HJ.out.1, HJ.out.2, HN7.out⟩⟩
    · obtain rfl : nc = j := by omega
      rw [List.take_of_length_le (by have := HNC.out; omega)] at hG
      have jn : ¬ ((nc : Int) < (nc : Int)) := by omega
      have hvl : vals.length = nc := by rw [hG.n, List.length_map]; exact HNC.out
      have ho7 := hG.o
      rw [hvl] at ho7
      obtain ⟨A7, c7, rfl⟩ := Lw.own_slice ho7
      have HF := Lib.hid (And.intro hG.rdLC hG.b)
      clear hG ho7 hvl hjk hjn hj
      go_wp2_with fail
      refine gen_loopw (fun W => RdLC W A7 (comps.map (· ++ [-7])) ∧ Below w3.heap.size w3 W) HF.out ?_
      clear HF
      rintro w4 ⟨hf, hb4⟩
      have HF := Lib.hid (And.intro hf (And.intro hb4 (HC.out.2.2.1.below hb4)))
      clear hf hb4
      go_loopg [10, 11, 40] (nc + 1) (fun kq v10 v11 v40 w' => ∃ j : Nat, v40 = .int .i64 (j : Int) ∧ Hid (j + kq = nc + 1 ∧ j ≤ nc ∧ ∃ vals, InS w4 w' comps v10 vals j))
      case atStart => exact ⟨0, rfl, Lib.hid ⟨by omega, by omega, [], One.start, fun i v h => by simp at h⟩⟩
      case round =>
        obtain ⟨j, rfl, hJ⟩ := hrel
        rename World => wp
        obtain ⟨hjk, hjn, vals, hI⟩ := hJ.out
        clear hJ
        by_cases hj : j < nc
        · obtain ⟨k1, rfl⟩ : ∃ k1, gk = k1 + 1 := ⟨gk - 1, by omega⟩
          obtain ⟨r, hx⟩ : ∃ x, comps[j]? = some x := ⟨_, List.getElem?_eq_getElem (by have := HNC.out; omega)⟩
          obtain ⟨wd, hwd⟩ : ∃ wd, wp.drew = wd := ⟨_, rfl⟩
          have hbd : Below wp.heap.size wp wd := by
            rw [← hwd]
            exact (Below.refl _ _).drew
          have hb4 := hI.o.b.trans (hbd.mono hI.o.b.size)
          obtain ⟨bc, oc, B, cr, hA, cx, _, _, hrl⟩ := (HF.out.2.2.below hb4) j r hx
          subst hA
          obtain ⟨b7, Bf, cf, hA, cy, hrf, hcf⟩ := (HF.out.1.below hb4) j (r ++ [-7]) (by rw [List.getElem?_map, hx]; rfl)
          subst hA
          obtain ⟨_, Bf', cf', hA, cy', hrf', _⟩ := HF.out.1 j (r ++ [-7]) (by rw [List.getElem?_map, hx]; rfl)
          cases hA
          have hcc := (cell_below hb4 cy').symm.trans cy
          cases hcc
          obtain ⟨nr, hnr⟩ : ∃ n, r.length = n := ⟨_, rfl⟩
          rw [hnr] at cx hrl
          rw [List.length_append, List.length_singleton, hnr] at cy hcf
          obtain ⟨A9, c9, rfl⟩ := Lw.own_slice hI.o.r
          have HQ := Lib.hid (And.intro cy cx)
          have hI2 : InS w4 wd comps (.slice A9 j c9) vals j := ⟨hI.o.below hbd, hI.r⟩
          have HO := Lib.hid hI2
          have HNX := Lib.hid (fun (v6 : Value) (w6 : World) (ho : w6.ownsRow w4.heap.size 22 1 v6 (j + 1) (vals ++ [.slice Bf nr cf])) (hg : (wd.alloc (.cells #[.slice Bf nr cf] 22)).grownBy w6 (Value.slice A9 j c9).ownBlock) => show ∃ vals, InS w4 w6 comps v6 vals (j + 1) from ⟨_, InS.push ⟨hI2.o.below ((Below.refl _ _).alloc (Nat.le_refl _) _), hI2.r⟩ hx (by rw [hnr]) (rdI_take hrf') ho hg⟩)
          have HJ := Lib.hid (show j + 1 + k1 = nc + 1 ∧ j + 1 ≤ nc from ⟨by omega, by omega⟩)
          have j0 : (0 : Int) ≤ (j : Int) := by omega
          have j1 : (j : Int) < (nc : Int) := by omega
          have n0 : (0 : Int) ≤ (nr : Int) := by omega
          have n1 : (nr : Int) ≤ (cf : Int) := by omega
          clear hjk hI hx hbd hb4 cx cy cy' hrf hrf' hcf hnr hI2 hj hjn
          go_upto_region 14 with (fail)
          refine start_ (n := 14) (S := fun w' => w'.cell? ⟨b7, j, none⟩ = some (.slice Bf (nr + 1) cf) ∧ w'.cell? ⟨bc, oc + j, none⟩ = some (.slice B nr cr)) (ds := [12]) (bA 14 0) (by kernel_rfl) rfl rfl ⟨(by rw [hwd]; exact HQ.out.1), (by rw [hwd]; exact HQ.out.2)⟩ (fun hHeld => ?_)
          rw [hwd] at hHeld ⊢
          refine with_tabW tb5_14.tab14 tb5_14.bits14 (fun HT_ HW_ => ?_)
          refine pw_ 0 43 (bA 14 1) HT_.out ?_
          refine pw_ 1 44 (bA 14 3) HT_.out ?_
          refine pw_ 2 45 (bA 14 7) HT_.out ?_
          refine pw_ 3 46 (bA 14 15) HT_.out ?_
          refine pw_ 5 48 (bA 14 47) HT_.out ?_
          refine pw_ 6 49 (bA 14 111) HT_.out ?_
          refine pw_ 7 50 (bA 14 239) HT_.out ?_
          refine tw_ 4 47 (bA 14 255) HT_.out HW_.out hHeld (hv := by rintro w' ⟨s0, s1⟩; go_simp; with_reducible rfl) (h := ?_)
          refine tw_ 8 51 (bA 14 511) HT_.out HW_.out hHeld (hv := by rintro w' ⟨s0, s1⟩; go_simp; with_reducible rfl) (h := ?_)
          refine pw_ 9 52 (bA 14 1023) HT_.out ?_
          refine pw_ 10 53 (bA 14 2047) HT_.out ?_
          refine one_ (i := 11) (N := some 54) (bA 14 4095) rfl rfl (one_of HT_.out (by kernel_rfl)) (by decide) (fun K hK => ?_)
          refine value_ (w1 := ?_) (v := ?_) (by rfl) rfl ?_ ?_
          rotate_left 2
          · go_simp
            constructor
            · rfl
            · rfl
          refine hK.out _ _ ⟨(cell_al HQ.out.1 _), (cell_al HQ.out.2 _)⟩ (fun hHeld => ?_)
          clear hK K
          refine norm_ (a' := ?_) ?_ ?_
          rotate_left
          · show Act.put _ (some 54) _ = _
            simp only [Act.put, pA, pB, pC, pD, pE]; rfl
          refine last_ (i := 12) (N := some 55) (bA 14 8191) rfl rfl (one_of HT_.out (by kernel_rfl)) (by decide) (fun K hK => ?_)
          refine step_append_any rfl (.tmp 43) (.tmp 54) 24 rfl w4.heap.size 22 i3 (.slice none 0 0) 1 24 Try.underlying24 hi3 hz3 hs3 hy3 rfl (by omega) _ _ _ rfl (HO.out.o.r.alloc (.cells #[.slice Bf nr cf] 22)) _ rfl 1 [.slice Bf nr cf] (RdV.lit wd #[.slice Bf nr cf] 22 1 1 1 rfl (by simp [Value.oneCell'])) (by unfold maxLen; omega) (by omega) (by have := HO.out.o.b.size; simp; omega) ?_
          intro v6 w6 ho hg hn
          have HN := Lib.hid (HNX.out v6 w6 ho hg)
          clear ho hg hn; refine hK.out _ _ ?_; clear hK K
          refine norm_ (a' := ?_) ?_ ?_
          rotate_left
          · show Act.put _ (some 55) _ = _
            simp only [Act.put, pA, pB, pC, pD, pE]; rfl
          refine pw_ 13 10 (bA 14 16383) HT_.out ?_
          refine done_ (done_of HT_.out (by kernel_rfl)) ?_
          clear hHeld HT_ HW_; clear HQ HO HNX hwd
          go_wp2
          go_roundg k1
          case measure => omega
          case rel => exact ⟨j + 1, by go_num, Lib.hid ⟨HJ.out.1, HJ.out.2, HN.out⟩⟩
        · obtain rfl : nc = j := by omega
          have jn : ¬ ((nc : Int) < (nc : Int)) := by omega
          obtain ⟨A10, c10, rfl⟩ := Lw.own_slice hI.o.r
          have hrows : ∀ r ∈ comps, r.length ≤ 1048576 := fun r hr => by
            obtain ⟨i, hi, rfl⟩ := List.getElem_of_mem hr
            obtain ⟨_, _, _, _, _, _, _, _, h⟩ := HC.out.2.2.1 i _ (List.getElem?_eq_getElem hi)
            exact h
          have hin : RdLO wp A10 comps := InS.rdLO (n := nc) (c := c10) (vals := vals) (by rw [HNC.out]; exact hI) hrows
          have hbp : Below w3.heap.size w3 wp := HF.out.2.1.trans (hI.o.b.mono HF.out.2.1.size)
          have hgr := graph13_calls wp A2 A3 c2 c3 L E (HC.out.1.below hbp) (HC.out.2.1.below hbp) (by have := HC.out.2.2.2.1; omega) (by have := HC.out.2.2.2.2.1; omega) HC.out.2.2.2.2.2.1
          rw [HC.out.2.2.2.1, HC.out.2.2.2.2.1] at hgr
          have HGR := Lib.hid hgr
          have HP := Lib.hid (And.intro hbp (And.intro hin (HF.out.1.below hI.o.b)))
          clear hjk hjn hI hj hrows hin hbp hgr HF
          go_wp2_with fail
          refine HGR.out.mono ?_
          clear HGR
          rintro e5 w5 ⟨A5, cg, AE, ce, rfl, -, hre, hb5⟩
          have har := arcs09_calls (gw := 0) w5 A5 AE nL cg nE ce (E.map adE) hre (by rw [List.length_map]; exact HC.out.2.2.2.2.1) (by omega)
          rw [ends_adE] at har
          have HAR := Lib.hid har
          have HB5 := Lib.hid hb5
          clear hre hb5 har
          go_wp2_with fail
          refine HAR.out.mono ?_
          clear HAR
          rintro e6 w6 ⟨v6, rfl, ho6⟩
          obtain ⟨A6, c6, rfl⟩ := Lw.own_slice ho6.r
          have HO6 := Lib.hid ho6
          have HRV := Lib.hid (fun (W : World) (hb : Below w5.heap.size w5 W) => show RdV W (.slice A2 nL c2) nL 1 (ints L) from by
            have h := rdV_O (c := c2) (RdI.o (((HC.out.1.below HP.out.1).below HB5.out).below hb)) HC.out.2.2.2.2.2.2
            rwa [HC.out.2.2.2.1] at h)
          clear ho6
          go_upto_region 18 with ((at_builtin; first | (refine wpList_append_any rfl (.tmp 60) (.tmp 62) 23 rfl w5.heap.size 38 i2 (.agg #[.int .i64 0, .int .i64 0]) 2 16 Try.underlying23 hi2 hz2 hs2 hy2 rfl (by omega) _ _ _ rfl (HO6.out.r.alloc (.cells #[.int .i64 5, .int .i64 6] 38)) _ rfl 1 [.int .i64 5, .int .i64 6] (RdV.lit w6 #[.int .i64 5, .int .i64 6] 38 1 2 1 rfl (by simp [Value.oneCell'])) (by unfold maxLen; omega) (by omega) (by have := HO6.out.b.size; simp; omega) ?_; intro v7 w7 ho hg hn; have HN7 := Lib.hid ((HO6.out.below ((Below.refl _ _).alloc (Nat.le_refl _) (.cells #[.int .i64 5, .int .i64 6] 38))).grow ho hg); clear ho hg hn; have HV7 := Lib.hid (HRV.out w7 HN7.out.b)) | (refine wpList_append_any rfl (.tmp 64) (.tmp 65) 22 rfl w7.heap.size 3 i1 (.int .i64 0) 1 8 Try.underlying22 hi1 hz1 hs1 hy1 rfl (by omega) _ 0 [] rfl (own_made rfl (Nat.le_refl _)) _ rfl nL (ints L) (HV7.out.below ((Below.refl _ _).alloc (Nat.le_refl _) (.cells #[] 3))) (by unfold maxLen; omega) (by omega) (by simp) ?_; intro v8 w8 ho hg hn; have HN8 := Lib.hid ((One.make (Below.refl _ _) (own_made (T := 3) (size := 1) rfl (Nat.le_refl _)) ((Below.refl w7.heap.size w7).alloc (Nat.le_refl _) (.cells #[] 3))).grow ho hg); clear ho hg hn; rw [Nat.zero_add, List.nil_append] at HN8; obtain ⟨A8, c8, rfl⟩ := Lw.own_slice HN8.out.r) | (refine wpList_append_any rfl (.tmp 66) (.tmp 67) 22 rfl w7.heap.size 3 i1 (.int .i64 0) 1 8 Try.underlying22 hi1 hz1 hs1 hy1 rfl (by omega) _ _ _ rfl (HN8.out.r.alloc (.cells #[.int .i64 8] 3)) _ rfl 1 [.int .i64 8] (RdV.lit w8 #[.int .i64 8] 3 1 1 1 rfl (by simp [Value.oneCell'])) (by unfold maxLen; omega) (by omega) (by have := HN8.out.b.size; simp; omega) ?_; intro v9 w9 ho hg hn; have HN9 := Lib.hid ((HN8.out.below ((Below.refl _ _).alloc (Nat.le_refl _) (.cells #[.int .i64 8] 3))).grow ho hg); clear ho hg hn)))
          obtain ⟨g12, c12, rfl, _⟩ := HN7.out.r.form (by omega)
          obtain ⟨g13, c13, rfl, _⟩ := HN9.out.r.form (by omega)
          have n12 : nE + 1 ≤ c12 := own_room HN7.out.r
          have n13 : nL + 1 ≤ c13 := own_room HN9.out.r
          have m12 : nE ≤ c12 := by omega
          have m13 : nL ≤ c13 := by omega
          have i12 : (nE : Int) < (c12 : Int) := by omega
          have i13 : (nL : Int) < (c13 : Int) := by omega
          refine gen_world (fun W => OwM w3 W Ac A2 A3 A7 A10 g12 g13 L E comps) ?_ ?_
          · have b59 := HN7.out.b.trans (HN9.out.b.mono HN7.out.b.size)
            have bp9 := HB5.out.trans (b59.mono HB5.out.size)
            have b39 := HP.out.1.trans (bp9.mono HP.out.1.size)
            have hr7 := HN7.out.r
            have hr9 := HN9.out.r
            rw [show (arcs2 (ends E) ++ [Value.int .i64 5, Value.int .i64 6]) = arcs2 (ends E ++ [(5, 6)]) by rw [arcs2_append]; rfl] at hr7
            rw [ints_snoc] at hr9
            exact ⟨HC.out.2.2.1.below b39, HC.out.1.below b39, HC.out.2.1.below b39, HP.out.2.2.below bp9, HP.out.2.1.below bp9, (RdA.of_own hr7).1.below HN9.out.b, (RdI.of_own hr9).1, b39⟩
          clear HN7 HN9 HB5 HP HO6 HRV
          intro w10 hM
          obtain ⟨wd, hwd⟩ : ∃ wd, w10.drew = wd := ⟨_, rfl⟩
          have hMd := hM.below (Below.refl w10.heap.size w10).drew
          rw [hwd] at hMd
          obtain ⟨gs, p1, p2, p3, p4, p5, p6, p7⟩ := parts_plain L (ends E) (by have := HC.out.2.2.2.1; omega) (by unfold ends; rw [List.length_map]; have := HC.out.2.2.2.2.1; omega)
          have hel : (ends E).length = nE := by unfold ends; rw [List.length_map]; exact HC.out.2.2.2.2.1
          have hpc := parts_calls wd (some ⟨g13, 0, none⟩) (some ⟨g12, 0, none⟩) A10 c13 c12 c10 L (ends E) comps (rdI_take hMd.ns) (rdA_take hMd.ar) hMd.ins (by have := HC.out.2.2.2.1; omega) (by omega) 1000 _ gs p1 p2 p3 p4
          rw [HC.out.2.2.2.1, hel, HNC.out] at hpc
          have HPC := Lib.hid (hpc.mono (R' := fun e w' => ∃ b : Bool, e = .returned (.bool b) ∧ Below wd.heap.size wd w') fun e w' ⟨b, h1, _, h2⟩ => ⟨b, h1, h2⟩)
          have HMd := Lib.hid hMd
          clear hM hMd p1 p2 p3 p4 p5 p6 p7 hel hpc
          refine start_ (n := 10) (S := fun w' => True) (ds := [9]) (bA 10 0) (by kernel_rfl) rfl rfl trivial (fun hHeld => ?_)
          rw [hwd]
          refine with_tabW tb5_18.tab18 tb5_18.bits18 (fun HT_ HW_ => ?_)
          refine pw_ 0 69 (bA 10 1) HT_.out ?_
          refine pw_ 1 70 (bA 10 3) HT_.out ?_
          refine pw_ 2 71 (bA 10 7) HT_.out ?_
          refine pw_ 3 72 (bA 10 15) HT_.out ?_
          refine pw_ 4 73 (bA 10 31) HT_.out ?_
          refine pw_ 5 74 (bA 10 63) HT_.out ?_
          refine pw_ 6 75 (bA 10 127) HT_.out ?_
          refine pw_ 7 76 (bA 10 255) HT_.out ?_
          refine pw_ 8 77 (bA 10 511) HT_.out ?_
          refine last_ (i := 9) (N := some 78) (bA 10 1023) rfl rfl (one_of HT_.out (by kernel_rfl)) (by decide) (fun K hK => ?_)
          refine gw_ Try.func10 #[.slice (some ⟨g13, 0, none⟩) nL c13, .slice (some ⟨g12, 0, none⟩) nE c12, .slice A10 nc c10] ?_
          with_reducible refine (HPC.out).mono ?_
          rintro e w18 ⟨b18, rfl, hb18⟩
          refine ⟨_, rfl, ?_⟩
          refine hK.out _ _ ?_; clear hK K
          refine norm_ (a' := ?_) ?_ ?_
          rotate_left
          · show Act.put _ (some 78) _ = _
            simp only [Act.put, pA, pB, pC, pD, pE]; rfl
          refine done_ (done_of HT_.out (by kernel_rfl)) ?_
          clear hHeld HT_ HW_
          have HM18 := Lib.hid (HMd.out.below hb18)
          clear hb18 HMd HPC hwd
          go_upto_region 19 with (fail)
          obtain ⟨wd, hwd⟩ : ∃ wd, w18.drew = wd := ⟨_, rfl⟩
          have hMd := HM18.out.below (Below.refl w18.heap.size w18).drew
          rw [hwd] at hMd
          have htc := fun (W : World) (hb : Below wd.heap.size wd W) => tree_calls W (some ⟨g13, 0, none⟩) A3 (some ⟨wd.heap.size, 0, none⟩) c13 c3 1 L E [] 0 (rdI_take (hMd.below hb).ns) (hMd.below hb).es (fun j v f b e h => by simp at h) (by have := HC.out.2.2.2.1; omega) (by have := HC.out.2.2.2.2.1; omega) HC.out.2.2.2.2.2.1 (fun p hp => by cases hp)
          simp only [HC.out.2.2.2.1, HC.out.2.2.2.2.1, List.length_nil] at htc
          have HTC := Lib.hid htc
          have HMd := Lib.hid hMd
          clear HM18 hMd htc
          refine start_ (n := 10) (S := fun w' => True) (ds := [9]) (bA 10 0) (by kernel_rfl) rfl rfl trivial (fun hHeld => ?_)
          rw [hwd]
          refine with_tabW tb5_19.tab19 tb5_19.bits19 (fun HT_ HW_ => ?_)
          refine pw_ 0 79 (bA 10 1) HT_.out ?_
          refine pw_ 1 80 (bA 10 3) HT_.out ?_
          refine pw_ 2 81 (bA 10 7) HT_.out ?_
          refine pw_ 3 82 (bA 10 15) HT_.out ?_
          refine pw_ 4 83 (bA 10 31) HT_.out ?_
          refine pw_ 5 84 (bA 10 63) HT_.out ?_
          refine one_ (i := 6) (N := some 85) (bA 10 127) rfl rfl (one_of HT_.out (by kernel_rfl)) (by decide) (fun K hK => ?_)
          refine value_ (w1 := ?_) (v := ?_) (by rfl) rfl ?_ ?_
          rotate_left 2
          · go_simp
            constructor
            · rfl
            · rfl
          have HTC2 := Lib.hid (HTC.out (wd.alloc (.cells #[.int .i64 1, .bool false, .int .u32 0, .int .i64 0] 43)) ((Below.refl wd.heap.size wd).alloc (Nat.le_refl _) (.cells #[.int .i64 1, .bool false, .int .u32 0, .int .i64 0] 43)))
          refine hK.out _ _ trivial (fun hHeld => ?_)
          clear hK K
          refine norm_ (a' := ?_) ?_ ?_
          rotate_left
          · show Act.put _ (some 85) _ = _
            simp only [Act.put, pA, pB, pC, pD, pE]; rfl
          refine pw_ 7 86 (bA 10 255) HT_.out ?_
          refine pw_ 8 87 (bA 10 511) HT_.out ?_
          refine last_ (i := 9) (N := some 88) (bA 10 1023) rfl rfl (one_of HT_.out (by kernel_rfl)) (by decide) (fun K hK => ?_)
          refine gw_ Try.func17 #[.slice (some ⟨g13, 0, none⟩) nL c13, .slice A3 nE c3, .agg #[.int .i64 0, .slice (some ⟨wd.heap.size, 0, none⟩) 0 1]] ?_
          with_reducible refine (HTC2.out).mono ?_
          rintro e w19 ⟨rfl, hb19⟩
          refine ⟨_, rfl, ?_⟩
          refine hK.out _ _ ?_; clear hK K
          refine norm_ (a' := ?_) ?_ ?_
          rotate_left
          · show Act.put _ (some 88) _ = _
            simp only [Act.put, pA, pB, pC, pD, pE]; rfl
          refine done_ (done_of HT_.out (by kernel_rfl)) ?_
          clear hHeld HT_ HW_
          have HM := Lib.hid (HMd.out.below (((Below.refl wd.heap.size wd).alloc (Nat.le_refl _) (.cells #[.int .i64 1, .bool false, .int .u32 0, .int .i64 0] 43)).trans (hb19.mono (by simp))))
          clear hb19 HMd HTC HTC2 hwd
          have k13 : w19.cell? ⟨g13, nL, none⟩ = some (.int .i64 8) := by
            obtain ⟨b, hb, hc⟩ := HM.out.ns nL 8 (by rw [List.getElem?_append_right (by have := HC.out.2.2.2.1; omega), HC.out.2.2.2.1, Nat.sub_self]; rfl)
            cases hb
            exact hc
          obtain ⟨k12, k12'⟩ : w19.cell? ⟨g12, nE * 2, none⟩ = some (.int .i64 5) ∧ w19.cell? ⟨g12, nE * 2 + 1, none⟩ = some (.int .i64 6) := by
            have hel : (ends E).length = nE := by unfold ends; rw [List.length_map]; exact HC.out.2.2.2.2.1
            obtain ⟨b, hb, hc, hc'⟩ := HM.out.ar nE 5 6 (by rw [List.getElem?_append_right (by omega), hel, Nat.sub_self]; rfl)
            cases hb
            exact ⟨hc, hc'⟩
          go_wp2_with fail
          clear k13 k12 k12'
          go_loopg [106] (nL + 1) (fun kq v106 w' => ∃ j : Nat, v106 = .int .i64 (j : Int) ∧ Hid (j + kq = nL + 1 ∧ j ≤ nL ∧ Below w19.heap.size w19 w'))
          case atStart => exact ⟨0, rfl, Lib.hid ⟨by omega, by omega, Below.refl _ _⟩⟩
          case round =>
            obtain ⟨j, rfl, hJ⟩ := hrel
            rename World => wq
            obtain ⟨hjk, hjn, hb⟩ := hJ.out
            clear hJ
            by_cases hj : j < nL
            · obtain ⟨k1, rfl⟩ : ∃ k1, gk = k1 + 1 := ⟨gk - 1, by omega⟩
              obtain ⟨x, hx⟩ : ∃ x, L[j]? = some x := ⟨_, List.getElem?_eq_getElem (by have := HC.out.2.2.2.1; omega)⟩
              obtain ⟨wd, hwd⟩ : ∃ wd, wq.drew = wd := ⟨_, rfl⟩
              have hbd : Below w19.heap.size w19 wd := by
                rw [← hwd]
                exact hb.trans ((Below.refl _ _).drew.mono hb.size)
              obtain ⟨b2, hA, c2x⟩ := (HM.out.vs.below hbd) j x hx
              subst hA
              obtain ⟨_, hA, c13x⟩ := (HM.out.ns.below hbd) j x (by rw [List.getElem?_append_left (by have := HC.out.2.2.2.1; omega)]; exact hx)
              cases hA
              have HQ := Lib.hid (And.intro c13x c2x)
              have HJ := Lib.hid (show j + 1 + k1 = nL + 1 ∧ j + 1 ≤ nL ∧ Below w19.heap.size w19 wd from ⟨by omega, by omega, hbd⟩)
              have j0 : (0 : Int) ≤ (j : Int) := by omega
              have j1 : (j : Int) < (nL : Int) := by omega
              have j3 : (j : Int) < (nL : Int) + 1 := by omega
              have hq : ((x : Int) != x) = false := by simp
              clear hjk hjn hb hx hbd c2x c13x hj
              go_upto_region 25 with (fail)
              refine start_ (n := 9) (S := fun w' => w'.cell? ⟨g13, j, none⟩ = some (.int .i64 x) ∧ w'.cell? ⟨b2, j, none⟩ = some (.int .i64 x)) (ds := []) (bA 9 0) (by kernel_rfl) rfl rfl ⟨(by rw [hwd]; exact HQ.out.1), (by rw [hwd]; exact HQ.out.2)⟩ (fun hHeld => ?_)
              rw [hwd] at hHeld ⊢
              refine with_tabW tb5_25.tab25 tb5_25.bits25 (fun HT_ HW_ => ?_)
              refine pw_ 0 109 (bA 9 1) HT_.out ?_
              refine pw_ 1 110 (bA 9 3) HT_.out ?_
              refine pw_ 2 111 (bA 9 7) HT_.out ?_
              refine pw_ 4 113 (bA 9 23) HT_.out ?_
              refine pw_ 5 114 (bA 9 55) HT_.out ?_
              refine pw_ 6 115 (bA 9 119) HT_.out ?_
              refine tw_ 3 112 (bA 9 127) HT_.out HW_.out hHeld (hv := by rintro w' ⟨s0, s1⟩; go_simp; with_reducible rfl) (h := ?_)
              refine tw_ 7 116 (bA 9 255) HT_.out HW_.out hHeld (hv := by rintro w' ⟨s0, s1⟩; go_simp; with_reducible rfl) (h := ?_)
              refine pw_ 8 117 (bA 9 511) HT_.out ?_
              refine done_ (done_of HT_.out (by kernel_rfl)) ?_
              clear hHeld HT_ HW_; clear HQ hwd
              go_wp2
              go_roundg k1
              case measure => omega
              case rel => exact ⟨j + 1, by go_num, HJ⟩
            · obtain rfl : nL = j := by omega
              have jn2 : ¬ ((nL : Int) < (nL : Int)) := by omega
              have HQB := Lib.hid hb
              clear hjk hjn hb hj
              go_wp2_with fail
              go_loopg [121] (nc + 1) (fun kq v121 w' => ∃ j : Nat, v121 = .int .i64 (j : Int) ∧ Hid (j + kq = nc + 1 ∧ j ≤ nc ∧ Below w19.heap.size w19 w'))
              case atStart => exact ⟨0, rfl, Lib.hid ⟨by omega, by omega, HQB.out⟩⟩
              case round =>
                clear HQB
                obtain ⟨j, rfl, hJ⟩ := hrel
                rename World => wp
                obtain ⟨hjk, hjn, hb⟩ := hJ.out
                clear hJ
                by_cases hj : j < nc
                · obtain ⟨k1, rfl⟩ : ∃ k1, gk = k1 + 1 := ⟨gk - 1, by omega⟩
                  obtain ⟨r, hx⟩ : ∃ x, comps[j]? = some x := ⟨_, List.getElem?_eq_getElem (by have := HNC.out; omega)⟩
                  obtain ⟨wd, hwd⟩ : ∃ wd, wp.drew = wd := ⟨_, rfl⟩
                  have hbd : Below w19.heap.size w19 wd := by
                    rw [← hwd]
                    exact hb.trans ((Below.refl _ _).drew.mono hb.size)
                  obtain ⟨bc, oc, B, cr, hA, cx, hro, _, hrl⟩ := (HM.out.cs.below hbd) j r hx
                  subst hA
                  obtain ⟨b7, Bf, cf, hA, cy, hrf, _⟩ := (HM.out.fu.below hbd) j (r ++ [-7]) (by rw [List.getElem?_map, hx]; rfl)
                  subst hA
                  obtain ⟨nr, hnr⟩ : ∃ n, r.length = n := ⟨_, rfl⟩
                  rw [hnr] at cx hrl
                  rw [List.length_append, List.length_singleton, hnr] at cy
                  obtain ⟨gf, hA, cz⟩ := hrf nr (-7) (by rw [List.getElem?_append_right (by omega), hnr, Nat.sub_self]; rfl)
                  subst hA
                  have HQ := Lib.hid (And.intro cy (And.intro cx cz))
                  have HJ := Lib.hid (And.intro (show j + 1 + k1 = nc + 1 ∧ j + 1 ≤ nc from ⟨by omega, by omega⟩) (And.intro hbd (And.intro hro (And.intro hrf hnr))))
                  have j0 : (0 : Int) ≤ (j : Int) := by omega
                  have j1 : (j : Int) < (nc : Int) := by omega
                  have r0 : (0 : Int) ≤ (nr : Int) := by omega
                  have r1 : (nr : Int) < (nr : Int) + 1 := by omega
                  clear hjk hjn hb hx hbd hro hrf hnr hj cy cz
                  go_upto_region 31 with (fail)
                  refine start_ (n := 12) (S := fun w' => w'.cell? ⟨b7, j, none⟩ = some (.slice (some ⟨gf, 0, none⟩) (nr + 1) cf) ∧ w'.cell? ⟨bc, oc + j, none⟩ = some (.slice B nr cr) ∧ w'.cell? ⟨gf, nr, none⟩ = some (.int .i64 (-7))) (ds := []) (bA 12 0) (by kernel_rfl) rfl rfl ⟨(by rw [hwd]; exact HQ.out.1), (by rw [hwd]; exact HQ.out.2.1), (by rw [hwd]; exact HQ.out.2.2)⟩ (fun hHeld => ?_)
                  rw [hwd] at hHeld ⊢
                  refine with_tabW tb5_31.tab31 tb5_31.bits31 (fun HT_ HW_ => ?_)
                  refine pw_ 0 124 (bA 12 1) HT_.out ?_
                  refine pw_ 1 125 (bA 12 3) HT_.out ?_
                  refine pw_ 2 126 (bA 12 7) HT_.out ?_
                  refine pw_ 4 128 (bA 12 23) HT_.out ?_
                  refine pw_ 5 129 (bA 12 55) HT_.out ?_
                  refine pw_ 6 130 (bA 12 119) HT_.out ?_
                  refine tw_ 3 127 (bA 12 127) HT_.out HW_.out hHeld (hv := by rintro w' ⟨s0, s1, s2⟩; go_simp; with_reducible rfl) (h := ?_)
                  refine tw_ 7 131 (bA 12 255) HT_.out HW_.out hHeld (hv := by rintro w' ⟨s0, s1, s2⟩; go_simp; with_reducible rfl) (h := ?_)
                  refine pw_ 8 132 (bA 12 511) HT_.out ?_
                  refine pw_ 9 133 (bA 12 1023) HT_.out ?_
                  refine tw_ 10 134 (bA 12 2047) HT_.out HW_.out hHeld (hv := by rintro w' ⟨s0, s1, s2⟩; go_simp; with_reducible rfl) (h := ?_)
                  refine pw_ 11 135 (bA 12 4095) HT_.out ?_
                  refine done_ (done_of HT_.out (by kernel_rfl)) ?_
                  clear hHeld HT_ HW_; clear hwd
                  go_wp2_with fail
                  clear cx
                  go_loopg [141] (nr + 1) (fun kq v141 w' => ∃ k : Nat, v141 = .int .i64 (k : Int) ∧ Hid (k + kq = nr + 1 ∧ k ≤ nr ∧ Below wd.heap.size wd w'))
                  case atStart => exact ⟨0, rfl, Lib.hid ⟨by omega, by omega, Below.refl _ _⟩⟩
                  case round =>
                    obtain ⟨k, rfl, hK⟩ := hrel
                    rename World => wk
                    obtain ⟨hkk, hkn, hb⟩ := hK.out
                    clear hK
                    by_cases hk : k < nr
                    · obtain ⟨k2, rfl⟩ : ∃ k2, gk = k2 + 1 := ⟨gk - 1, by omega⟩
                      obtain ⟨x, hx⟩ : ∃ x, r[k]? = some x := ⟨_, List.getElem?_eq_getElem (by have := HJ.out.2.2.2.2; omega)⟩
                      obtain ⟨we, hwd⟩ : ∃ we, wk.drew = we := ⟨_, rfl⟩
                      have hbe : Below wd.heap.size wd we := by
                        rw [← hwd]
                        exact hb.trans ((Below.refl _ _).drew.mono hb.size)
                      obtain ⟨bb, bo, hA, c1x⟩ := (HJ.out.2.2.1.below hbe) k x hx
                      subst hA
                      obtain ⟨_, hA, c2x⟩ := (HJ.out.2.2.2.1.below hbe) k x (by rw [List.getElem?_append_left (by have := HJ.out.2.2.2.2; omega)]; exact hx)
                      cases hA
                      have HR := Lib.hid (And.intro (cell_below hbe HQ.out.1) (And.intro c2x (And.intro (cell_below hbe HQ.out.2.1) c1x)))
                      have HK := Lib.hid (show k + 1 + k2 = nr + 1 ∧ k + 1 ≤ nr ∧ Below wd.heap.size wd we from ⟨by omega, by omega, hbe⟩)
                      have k0 : (0 : Int) ≤ (k : Int) := by omega
                      have k1' : (k : Int) < (nr : Int) := by omega
                      have k3 : (k : Int) < (nr : Int) + 1 := by omega
                      have hq : ((x : Int) != x) = false := by simp
                      clear hkk hkn hb hx hbe c1x c2x hk
                      go_upto_region 36 with (fail)
                      refine start_ (n := 15) (S := fun w' => w'.cell? ⟨b7, j, none⟩ = some (.slice (some ⟨gf, 0, none⟩) (nr + 1) cf) ∧ w'.cell? ⟨gf, k, none⟩ = some (.int .i64 x) ∧ w'.cell? ⟨bc, oc + j, none⟩ = some (.slice (some ⟨bb, bo, none⟩) nr cr) ∧ w'.cell? ⟨bb, bo + k, none⟩ = some (.int .i64 x)) (ds := []) (bA 15 0) (by kernel_rfl) rfl rfl ⟨(by rw [hwd]; exact HR.out.1), (by rw [hwd]; exact HR.out.2.1), (by rw [hwd]; exact HR.out.2.2.1), (by rw [hwd]; exact HR.out.2.2.2)⟩ (fun hHeld => ?_)
                      rw [hwd] at hHeld ⊢
                      refine with_tabW tb5_36.tab36 tb5_36.bits36 (fun HT_ HW_ => ?_)
                      refine pw_ 0 144 (bA 15 1) HT_.out ?_
                      refine pw_ 1 145 (bA 15 3) HT_.out ?_
                      refine pw_ 2 146 (bA 15 7) HT_.out ?_
                      refine pw_ 4 148 (bA 15 23) HT_.out ?_
                      refine pw_ 7 151 (bA 15 151) HT_.out ?_
                      refine pw_ 8 152 (bA 15 407) HT_.out ?_
                      refine pw_ 9 153 (bA 15 919) HT_.out ?_
                      refine pw_ 11 155 (bA 15 2967) HT_.out ?_
                      refine tw_ 3 147 (bA 15 2975) HT_.out HW_.out hHeld (hv := by rintro w' ⟨s0, s1, s2, s3⟩; go_simp; with_reducible rfl) (h := ?_)
                      refine pw_ 5 149 (bA 15 3007) HT_.out ?_
                      refine tw_ 6 150 (bA 15 3071) HT_.out HW_.out hHeld (hv := by rintro w' ⟨s0, s1, s2, s3⟩; go_simp; with_reducible rfl) (h := ?_)
                      refine tw_ 10 154 (bA 15 4095) HT_.out HW_.out hHeld (hv := by rintro w' ⟨s0, s1, s2, s3⟩; go_simp; with_reducible rfl) (h := ?_)
                      refine pw_ 12 156 (bA 15 8191) HT_.out ?_
                      refine tw_ 13 157 (bA 15 16383) HT_.out HW_.out hHeld (hv := by rintro w' ⟨s0, s1, s2, s3⟩; go_simp; with_reducible rfl) (h := ?_)
                      refine pw_ 14 158 (bA 15 32767) HT_.out ?_
                      refine done_ (done_of HT_.out (by kernel_rfl)) ?_
                      clear hHeld HT_ HW_; clear HR hwd
                      go_wp2
                      go_roundg k2
                      case measure => omega
                      case rel => exact ⟨k + 1, by go_num, HK⟩
                    · obtain rfl : nr = k := by omega
                      have jn3 : ¬ ((nr : Int) < (nr : Int)) := by omega
                      have HN := Lib.hid (show j + 1 + k1 = nc + 1 ∧ j + 1 ≤ nc ∧ Below w19.heap.size w19 wk from ⟨HJ.out.1.1, HJ.out.1.2, HJ.out.2.1.trans (hb.mono HJ.out.2.1.size)⟩)
                      clear hkk hkn hb hk
                      go_wp2_with fail
                      go_roundg k1
                      case measure => omega
                      case rel => exact ⟨j + 1, by go_num, HN⟩
                · obtain rfl : nc = j := by omega
                  have jn3 : ¬ ((nc : Int) < (nc : Int)) := by omega
                  have HN := Lib.hid (HB3.out.trans ((HM.out.b.trans (hb.mono HM.out.b.size)).mono HB3.out.size))
                  clear hjk hjn hb hj
                  go_wp2
                  go_ret
                  exact ⟨rfl, HN.out⟩
end Go.Proofs.Ytgihncjllelonaa.Ce
