/- scc.made: the walk. -/
import Derived.Test.YtgihncjllelonaaGreatHt5
import Derived.Test.YtgihncjllelonaaGreatHt9
namespace Go.Proofs.YtgihncjllelonaaGreat.Scc
open Go Go.RowKit Go.Proofs.YtgihncjllelonaaGreat.Mem Go.Proofs.YtgihncjllelonaaGreat.Tj Go.Proofs.YtgihncjllelonaaGreat.Sl Go.Proofs.YtgihncjllelonaaGreatW.PrintWords Go.Proofs.YtgihncjllelonaaGreatW.PrintLast
attribute [local go_sem ↓] Go.wp_at_zero Go.wp_at_succ
set_option linter.unusedSimpArgs false
set_option linter.unusedVariables false

def MadeAt (w : World) (gg bo n : Nat) (gv : Value) (l : List Int) (base : Nat) (vals : List Value) (out : List (List Nat)) (W : World) : Prop :=
  At W gg [gv, .slice (some ⟨bo, 0, none⟩) n n] 138 ∧ Rws W base bo n vals out ∧ W.ownsRow w.heap.size 3 1 gv n (ints l) ∧ (∀ k, gv.ownBlock = some k → k < base) ∧ Below w.heap.size w W ∧ w.heap.size ≤ gg ∧ gg < base ∧ bo < base ∧ base ≤ W.heap.size ∧ w.heap.size ≤ bo

def MadeStart (w : World) (n : Nat) (l : List Int) (v6 : Value) (W : World) : Prop :=
  ∃ gg bo gv base, v6 = .pointer (some ⟨gg, 0, none⟩) ∧ MadeAt w gg bo n gv l base (List.replicate n (.slice none 0 0)) (List.replicate n []) W

theorem mk_madeStart {w W : World} {n gg bo : Nat} {l : List Int} {gv : Value} (h1 : At W gg [gv, .slice (some ⟨bo, 0, none⟩) n n] 138) (h2 : At W bo (List.replicate n (.slice none 0 0)) 22)
    (h3 : W.ownsRow w.heap.size 3 1 gv n (ints l)) (hb : Below w.heap.size w W) (hg : w.heap.size ≤ gg) (hbo : w.heap.size ≤ bo) : MadeStart w n l (.pointer (some ⟨gg, 0, none⟩)) W := by
  refine ⟨gg, bo, gv, W.heap.size, rfl, h1, ⟨h2, by simp, by simp, ?_, ?_⟩, h3, fun k hk => (h3.lt k hk).2, hb, hg, h1.lt, h2.lt, Nat.le_refl _, hbo⟩
  · intro u v r e1 e2
    rw [List.getElem?_replicate] at e1 e2
    split at e1
    · cases e1
      rw [if_pos (by assumption)] at e2
      cases e2
      exact World.ownsRow_nil _ _ _ _
    · cases e1
  · intro u u' v v' _ e1 _
    rw [List.getElem?_replicate] at e1
    split at e1
    · cases e1; left; rfl
    · cases e1

theorem made_rows (n : Nat) : (madeCells #[.slice none 0 0] n).toList = List.replicate n (.slice none 0 0) := toList_madeCells_one _ _

def MadePost (w : World) (l : List Int) (arcs : List (Int × Int)) (e : Ending) (w' : World) : Prop :=
  Below w.heap.size w w' ∧
  if (Lib.compact (sorted l)).length = l.length then
    match arcsS (sorted l) arcs (List.replicate l.length []) with
    | some out => ∃ gg A c, e = .returned (.tuple #[.pointer (some ⟨gg, 0, none⟩), .int .i64 0]) ∧ Gr w' w'.heap.size gg l.length (.slice A l.length c) out ∧ RdI w' A (sorted l)
    | none => e = .returned (.tuple #[.pointer none, .int .i64 5])
  else e = .returned (.tuple #[.pointer none, .int .i64 2])

def MG (w : World) (gg bo n base c1 : Nat) (A1 : Option Addr) (l : List Int) (arcs : List (Int × Int)) (k j : Nat) (R : Option (List (List Nat))) (W : World) : Prop :=
  ∃ vals out, j + k = arcs.length ∧ arcsS (sorted l) (arcs.drop j) out = R ∧ (∀ r ∈ out, r.length ≤ j) ∧ At W gg [.slice A1 n c1, .slice (some ⟨bo, 0, none⟩) n n] 138 ∧ Rws W base bo n vals out ∧
    W.ownsRow w.heap.size 3 1 (.slice A1 n c1) n (ints (sorted l)) ∧ Below w.heap.size w W ∧ base ≤ W.heap.size

theorem sorted_pairwise (l : List Int) : (sorted l).Pairwise (· ≤ ·) := by
  have := List.pairwise_mergeSort (le := fun x y : Int => decide (x ≤ y)) (by intro a b c; simp; omega) (by intro a b; simp; omega) l
  exact this.imp (by intro a b h; simpa using h)

def tb64_8.T8 : Bool × List (List Nat × List Nat) := (true, [([], []), ([0], [0]), ([1], [1]), ([2], [2]), ([], []), ([4], [4]), ([3, 5], [3, 5]), ([6], [6]), ([7], [7]), ([7], [7]), ([8, 6, 0, 1, 2, 3, 4, 5, 6, 7, 8], [8]), ([9, 10, 0, 1, 2, 3, 4, 5, 6, 7, 8, 9, 10], [9])])
def tb64_8.B8 : List Nat := [0, 1, 3, 7, 0, 16, 63, 127, 255, 255, 511, 2047]
theorem tb64_8.tab8 : rtab .any (opsOf Tryz.f64 8) = tb64_8.T8 := by kernel_rfl
theorem tb64_8.bits8 : waitsOk tb64_8.T8.2 tb64_8.B8 = true := by kernel_rfl
def tb64_9.T9 : Bool × List (List Nat × List Nat) := (true, [([], []), ([0], [0]), ([1], [1]), ([2], [2]), ([], []), ([4], [4]), ([3, 5], [3, 5]), ([6], [6]), ([7], [7]), ([7], [7]), ([8, 6, 0, 1, 2, 3, 4, 5, 6, 7, 8], [8]), ([9, 10, 0, 1, 2, 3, 4, 5, 6, 7, 8, 9, 10], [9])])
def tb64_9.B9 : List Nat := [0, 1, 3, 7, 0, 16, 63, 127, 255, 255, 511, 2047]
theorem tb64_9.tab9 : rtab .any (opsOf Tryz.f64 9) = tb64_9.T9 := by kernel_rfl
theorem tb64_9.bits9 : waitsOk tb64_9.T9.2 tb64_9.B9 = true := by kernel_rfl
def tb64_12.T12 : Bool × List (List Nat × List Nat) := (true, [([], []), ([0], [0]), ([1], [1]), ([2], [2]), ([], []), ([], []), ([5], [5]), ([6], [6]), ([7], [7]), ([], []), ([8, 9], [8, 9]), ([10], [10]), ([], []), ([12], [12]), ([11, 13], [11, 13]), ([3, 4, 0, 1, 2, 3, 4, 5, 6, 7, 8, 9, 10, 11, 12, 13, 14], [3, 4]), ([15, 14, 14, 0, 1, 2, 3, 4, 5, 6, 7, 8, 9, 10, 11, 12, 13, 14], [14, 15])])
def tb64_12.B12 : List Nat := [0, 1, 3, 7, 0, 0, 32, 96, 224, 0, 992, 2016, 0, 4096, 16352, 32767, 65535]
theorem tb64_12.tab12 : rtab .any (opsOf Tryz.f64 12) = tb64_12.T12 := by kernel_rfl
theorem tb64_12.bits12 : waitsOk tb64_12.T12.2 tb64_12.B12 = true := by kernel_rfl
set_option maxHeartbeats 8000000 in
set_option maxRecDepth 100000 in
theorem made_calls (w : World) (Av Aa : Option Addr) (cv ca : Nat) (l : List Int) (arcs : List (Int × Int)) (hv : RdI w Av l) (ha : RdA w Aa arcs) (hn : l.length ≤ 1000000) (hm : arcs.length ≤ 1000000) :
    Calls Tryz.prog 64 #[.slice Av l.length cv, .slice Aa arcs.length ca] w fun e w' => MadePost w l arcs e w' := by
  obtain ⟨n, hnl⟩ : ∃ n, l.length = n := ⟨_, rfl⟩
  have hrd : ∀ W, Below w.heap.size w W → RdI W Av l := fun W h => hv.below h
  have hcl : ∀ W, Below w.heap.size w W → Calls Tryz.prog 52 #[.slice Av n cv] W fun e w' => ∃ v', e = .returned v' ∧ w'.ownsRow W.heap.size 3 1 v' n (ints l) ∧ Below W.heap.size W w' := fun W hW => by
    rw [← hnl]
    exact clone_calls W Av cv l (hrd W hW) hn
  have HCL := Lib.hid hcl
  have HA := Lib.hid ha
  have HNL := Lib.hid hnl
  have hm1 := fun wx => run_make_row' (P := Tryz.prog) 40 22 (.slice none 0 0) 24 Tryz.underlying40 info_ints rfl .i64 .i64 n (by omega) (by omega) wx
  rw [hnl]
  clear hrd hv ha hnl hcl
  go_enter Tryz.func64, Tryz.ntmps64
  go_upto_region 1 with (fail)
  go_cut [6] (fun v6 wc => Hid (MadeStart w n l v6 wc))
  case first =>
    go_region_with ((go_at_call 52; refine (HCL.out _ (by repeat (first | exact Below.refl _ _ | refine Below.drew ?_ | refine Below.alloc ?_ (by simp) _))).mono ?_; rintro e w1 ⟨v1, rfl, ho1, hb1⟩; obtain ⟨A1, c1, rfl⟩ := own_slice ho1))
    all_goals go_wp2_with fail
    all_goals go_meet
    · have hb2 : Below w.heap.size w w1 := ((Below.refl _ w).drew).trans hb1
      exact Lib.hid (mk_madeStart (At.made (by simp) rfl) ((At.made rfl (made_rows n)).al) ((World.ownsRow.alloc ho1 _).alloc _) ((hb2.alloc hb2.size _).alloc (by have := hb2.size; simp; omega) _) (by have := hb2.size; omega) hb2.size)
    · have hb2 : Below w.heap.size w w1 := (((Below.refl _ w).alloc (Nat.le_refl _) (.cells (madeCells #[.slice none 0 0] n) 22)).drew).trans (hb1.mono (by simp))
      have hlt : w.heap.size < (w.alloc (.cells (madeCells #[.slice none 0 0] n) 22)).drew.heap.size := by simp
      exact Lib.hid (mk_madeStart (At.made rfl rfl) (((At.made rfl (made_rows n)).drew.below hb1 hlt).al) (own_base (ho1.alloc _) (by simp)) (hb2.alloc hb2.size _) hb2.size (Nat.le_refl _))
  case rest =>
    clear hm1 HCL
    obtain ⟨gg, bo, gv, base, rfl, hg, hr, ho, hk, hb, hgg, hgb, hbb, hbs, hbo⟩ := hcut.out
    clear hcut
    obtain ⟨A1, c1, rfl⟩ := own_slice ho
    have c0 := hg.cell 0 rfl
    have HG := Lib.hid hg
    have HR := Lib.hid hr
    have HO := Lib.hid (show wc.ownsRow w.heap.size 3 1 (.slice A1 n c1) l.length (ints l) from by rw [HNL.out]; exact ho)
    have HB := Lib.hid hb
    have HL := Lib.hid (And.intro hgg (And.intro hgb (And.intro hbb (And.intro hbs hbo))))
    have HK := Lib.hid hk
    clear hg hr ho hb hgg hgb hbb hbs hbo hk
    go_wp2_with fail
    refine (sort_calls _ _ _ l HO.out hn).mono ?_
    rintro e w1 ⟨rfl, ho1, hg1⟩
    have hG1 := HG.out.grown hg1 (own_off HO.out HG.out (by decide))
    have hR1 : Rws w1 base bo n (List.replicate n (.slice none 0 0)) (List.replicate n []) := by
      refine ⟨HR.out.hat.grown hg1 (own_off HO.out HR.out.hat (by decide)), HR.out.lv, HR.out.lo, ?_, HR.out.apart⟩
      intro u v r e1 e2
      rw [List.getElem?_replicate] at e1 e2
      split at e1
      · cases e1
        rw [if_pos (by assumption)] at e2
        cases e2
        exact World.ownsRow_nil _ _ _ _
      · cases e1
    have hB1 := HB.out.grown hg1 HB.out.size (fun k hk => (HO.out.lt k hk).1)
    have hs1 : base ≤ w1.heap.size := Nat.le_trans HL.out.2.2.2.1 hg1.size
    clear HG HR HO HB
    have c0 := hG1.cell 0 rfl
    have ho1' := ho1
    rw [HNL.out] at ho1'
    have hd1 := (RdI.of_own ho1').1
    clear ho1'
    have HG := Lib.hid hG1
    have HR := Lib.hid hR1
    have HO := Lib.hid ho1
    have HB := Lib.hid hB1
    have HS := Lib.hid hs1
    have HD := Lib.hid hd1
    clear hG1 hR1 ho1 hB1 hs1 hd1 hg1
    go_wp2_with fail
    have hc2 := clone_calls w1 A1 c1 (sorted l) HD.out (by rw [sorted_length]; exact hn)
    rw [sorted_length, HNL.out] at hc2
    refine hc2.mono ?_
    clear hc2
    rintro e w2 ⟨v2, rfl, ho2, hb2⟩
    obtain ⟨A2, c2, rfl⟩ := own_slice ho2
    have HO2 := Lib.hid ho2
    have HB2 := Lib.hid hb2
    clear ho2 hb2
    go_wp2_with fail
    have hc3 := compact_calls w2 w1.heap.size (.slice A2 n c2) (sorted l) (by have := HO2.out; rw [← HNL.out] at this ⊢; rw [sorted_length]; exact this) (by rw [sorted_length]; exact hn)
    refine hc3.mono ?_
    clear hc3
    rintro e w3 ⟨⟨A3, c3, rfl⟩, hg3⟩
    have hb3 : Below w1.heap.size w1 w3 := HB2.out.grown hg3 HB2.out.size (fun k hk => (HO2.out.lt k hk).1)
    have hG3 := HG.out.below hb3 HG.out.lt
    have hR3 := HR.out.below hb3
    have hO3 : w3.ownsRow w.heap.size 3 1 (.slice A1 n c1) l.length (ints (sorted l)) := own_move HO.out (fun k hk => hb3.block k (HO.out.lt k hk).2)
    have hB3 : Below w.heap.size w w3 := HB.out.trans (hb3.mono HB.out.size)
    have hS3 : base ≤ w3.heap.size := Nat.le_trans HS.out hb3.size
    have hd3 : RdI w3 A1 (sorted l) := HD.out.below hb3
    clear HG HR HO HB HS HD HO2 HB2 hg3 hb3 c0
    have c0 := hG3.cell 0 rfl
    have HG := Lib.hid hG3
    have HR := Lib.hid hR3
    have HO := Lib.hid hO3
    have HB := Lib.hid hB3
    have HS := Lib.hid hS3
    have HD := Lib.hid hd3
    clear hG3 hR3 hO3 hB3 hS3 hd3
    obtain ⟨cl, hcl⟩ : ∃ cl, (Lib.compact (sorted l)).length = cl := ⟨_, rfl⟩
    rw [hcl]
    have HCL := Lib.hid hcl
    clear hcl
    by_cases hcn : cl = n
    · have hcn' := hcn.symm
      subst hcn'
      clear hcn
      have hsr : ∀ W x, RdI W A1 (sorted l) → Calls Tryz.prog 45 #[.slice A1 n c1, .int .i64 x] W fun e w' => e = .returned (.tuple #[.int .i64 (((sorted l).countP (· < x) : Nat) : Int), .bool ((sorted l).contains x)]) ∧ ∃ q, w' = W.drewN q := fun W x hW => by
        have := search_calls W A1 c1 (sorted l) x hW (by rw [sorted_length]; exact hn) (sorted_pairwise l)
        rw [sorted_length, HNL.out] at this
        exact this
      have HSR := Lib.hid hsr
      have hO := HO.out
      rw [HNL.out] at hO
      have HO := Lib.hid hO
      clear hsr hO c0
      go_wp2_with fail
      go_loopg [37] arcs.length (fun kq v37 w' => ∃ j : Nat, v37 = .int .i64 (j : Int) ∧ Hid (MG w gg bo n base c1 A1 l arcs kq j (arcsS (sorted l) arcs (List.replicate n [])) w'))
      case atStart => exact ⟨0, rfl, Lib.hid ⟨_, _, by omega, by rw [List.drop_zero], by intro r hr; rw [List.eq_of_mem_replicate hr]; simp, HG.out, HR.out, HO.out, HB.out, HS.out⟩⟩
      case round =>
        clear HG HR HO HB HS HD
        obtain ⟨j, rfl, hI⟩ := hrel
        obtain ⟨vals, out, hjk, harc, hlen, hg, hr, ho, hb, hs⟩ := hI.out
        clear hI
        by_cases hj : j < arcs.length
        · rw [List.drop_eq_getElem_cons hj] at harc
          obtain ⟨u, v, huv⟩ : ∃ u v, arcs[j] = (u, v) := ⟨_, _, rfl⟩
          rw [huv, arcsS] at harc
          obtain ⟨ba, rfl, hcu, hcv⟩ := (HA.out.below (hb.mono (Nat.le_refl _))) j u v (by rw [List.getElem?_eq_getElem hj, huv])
          obtain ⟨cu, hcu2⟩ : ∃ cu, (sorted l).countP (· < u) = cu := ⟨_, rfl⟩
          obtain ⟨cv2, hcv2⟩ : ∃ cv2, (sorted l).countP (· < v) = cv2 := ⟨_, rfl⟩
          obtain ⟨bu, hbu⟩ : ∃ bu, (sorted l).contains u = bu := ⟨_, rfl⟩
          obtain ⟨bv, hbv⟩ : ∃ bv, (sorted l).contains v = bv := ⟨_, rfl⟩
          have hsu := fun W hW => HSR.out W u hW
          have hsv := fun W hW => HSR.out W v hW
          rw [hcu2, hbu] at hsu
          rw [hcv2, hbv] at hsv
          rw [hcu2, hcv2, hbu, hbv] at harc
          have hlu : bu = true → cu < n := fun h => by have := countP_lt (l := sorted l) (u := u) (by rw [hbu, h]); rw [hcu2, sorted_length, HNL.out] at this; exact this
          have HSU := Lib.hid hsu
          have HSV := Lib.hid hsv
          have HLU := Lib.hid hlu
          have HARC := Lib.hid harc
          have HLEN := Lib.hid hlen
          have HJK := Lib.hid hjk
          have HG := Lib.hid hg
          have HR := Lib.hid hr
          have HO := Lib.hid ho
          have HB := Lib.hid hb
          have HS := Lib.hid hs
          have j0 : (0 : Int) ≤ (j : Int) := by omega
          have j1 : (j : Int) < (arcs.length : Int) := by omega
          have j2 : (arcs.length : Int) ≤ 1000000 := by omega
          clear hsu hsv hlu harc hlen hjk hg hr ho hb hs hcu2 hcv2 hbu hbv huv
          go_wp2
          refine gen_world (fun W => At W gg [.slice A1 n c1, .slice (some ⟨bo, 0, none⟩) n n] 138 ∧ Rws W base bo n vals out ∧ W.ownsRow w.heap.size 3 1 (.slice A1 n c1) n (ints (sorted l)) ∧ Below w.heap.size w W ∧ base ≤ W.heap.size ∧ At W wr.heap.size [.int .i64 u, .int .i64 v] 61) ?_ ?_
          · have hal := (Below.refl wr.heap.size wr).alloc (Nat.le_refl _) (.cells #[.int .i64 u, .int .i64 v] 61)
            exact ⟨HG.out.al, HR.out.below hal, HO.out.alloc _, HB.out.alloc HB.out.size _, by have := HS.out; simp; omega, At.made rfl rfl⟩
          clear HG HR HO HB HS hcu hcv
          obtain ⟨ab, hab⟩ : ∃ ab, wr.heap.size = ab := ⟨_, rfl⟩
          rw [hab]
          clear hab
          rintro W1 ⟨hg, hr, ho, hb, hs, hu⟩
          have c0 := hg.cell 0 rfl
          have cu0 := hu.cell 0 rfl
          have HG := Lib.hid hg
          have HR := Lib.hid hr
          have HO := Lib.hid ho
          have HB := Lib.hid hb
          have HS := Lib.hid hs
          have HU := Lib.hid hu
          clear hg hr ho hb hs hu
          refine start_ (n := 12) (S := fun w' => w'.cell? ⟨gg, 0, none⟩ = some (.slice A1 n c1) ∧ w'.cell? ⟨ab, 0, none⟩ = some (.int .i64 u)) (ds := []) (bA 12 0) (by kernel_rfl) rfl rfl ⟨c0, cu0⟩ (fun hHeld => ?_)
          refine with_tabW tb64_8.tab8 tb64_8.bits8 (fun HT_ HW_ => ?_)
          refine pw_ 0 42 (bA 12 1) HT_.out ?_
          refine pw_ 1 43 (bA 12 3) HT_.out ?_
          refine pw_ 2 44 (bA 12 7) HT_.out ?_
          refine pw_ 4 46 (bA 12 23) HT_.out ?_
          refine tw_ 3 45 (bA 12 31) HT_.out HW_.out hHeld (hv := by rintro w' ⟨s0, s1⟩; go_simp; with_reducible rfl) (h := ?_)
          refine tw_ 5 47 (bA 12 63) HT_.out HW_.out hHeld (hv := by rintro w' ⟨s0, s1⟩; go_simp; with_reducible rfl) (h := ?_)
          refine one_ (i := 6) (N := some 48) (bA 12 127) rfl rfl (one_of HT_.out (by kernel_rfl)) (by decide) (fun K hK => ?_)
          refine gw_ Tryz.func45 #[.slice A1 n c1, .int .i64 u] ?_
          with_reducible refine (HSU.out W1.drew (RdI.of_own (World.ownsRow.drew HO.out)).1).mono ?_
          rintro e w3 ⟨rfl, q, rfl⟩
          refine ⟨_, rfl, ?_⟩
          refine hK.out _ _ ⟨(HG.out.cell 0 rfl), (HU.out.cell 0 rfl)⟩ (fun hHeld => ?_)
          clear hK K
          refine norm_ (a' := ?_) ?_ ?_
          rotate_left
          · show Act.put _ (some 48) _ = _
            simp only [Act.put, pA, pB, pC, pD, pE]; rfl
          refine pw_ 7 41 (bA 12 255) HT_.out ?_
          refine pw_ 8 49 (bA 12 511) HT_.out ?_
          refine pw_ 9 50 (bA 12 1023) HT_.out ?_
          refine pw_ 10 9 (bA 12 2047) HT_.out ?_
          refine pw_ 11 10 (bA 12 4095) HT_.out ?_
          refine done_ (done_of HT_.out (by kernel_rfl)) ?_
          clear hHeld HT_ HW_; clear c0 cu0
          refine gen_then (fun W => At W gg [.slice A1 n c1, .slice (some ⟨bo, 0, none⟩) n n] 138 ∧ Rws W base bo n vals out ∧ W.ownsRow w.heap.size 3 1 (.slice A1 n c1) n (ints (sorted l)) ∧ Below w.heap.size w W ∧ base ≤ W.heap.size ∧ At W ab [.int .i64 u, .int .i64 v] 61) ?_ ?_
          · exact ⟨HG.out, ⟨HR.out.hat, HR.out.lv, HR.out.lo, HR.out.own, HR.out.apart⟩, HO.out, below_drewN (HB.out.drew) _, HS.out, HU.out⟩
          clear HG HR HO HB HS HU
          rintro W2 ⟨hg, hr, ho, hb, hs, hu⟩
          have c0 := hg.cell 0 rfl
          have cu1 := hu.cell 1 rfl
          have HG := Lib.hid hg
          have HR := Lib.hid hr
          have HO := Lib.hid ho
          have HB := Lib.hid hb
          have HS := Lib.hid hs
          have HU := Lib.hid hu
          clear hg hr ho hb hs hu
          go_wp2
          refine start_ (n := 12) (S := fun w' => w'.cell? ⟨gg, 0, none⟩ = some (.slice A1 n c1) ∧ w'.cell? ⟨ab, 1, none⟩ = some (.int .i64 v)) (ds := []) (bA 12 0) (by kernel_rfl) rfl rfl ⟨c0, cu1⟩ (fun hHeld => ?_)
          refine with_tabW tb64_9.tab9 tb64_9.bits9 (fun HT_ HW_ => ?_)
          refine pw_ 0 52 (bA 12 1) HT_.out ?_
          refine pw_ 1 53 (bA 12 3) HT_.out ?_
          refine pw_ 2 54 (bA 12 7) HT_.out ?_
          refine pw_ 4 56 (bA 12 23) HT_.out ?_
          refine tw_ 3 55 (bA 12 31) HT_.out HW_.out hHeld (hv := by rintro w' ⟨s0, s1⟩; go_simp; with_reducible rfl) (h := ?_)
          refine tw_ 5 57 (bA 12 63) HT_.out HW_.out hHeld (hv := by rintro w' ⟨s0, s1⟩; go_simp; with_reducible rfl) (h := ?_)
          refine one_ (i := 6) (N := some 58) (bA 12 127) rfl rfl (one_of HT_.out (by kernel_rfl)) (by decide) (fun K hK => ?_)
          refine gw_ Tryz.func45 #[.slice A1 n c1, .int .i64 v] ?_
          with_reducible refine (HSV.out W2.drew (RdI.of_own (World.ownsRow.drew HO.out)).1).mono ?_
          rintro e w3 ⟨rfl, q, rfl⟩
          refine ⟨_, rfl, ?_⟩
          refine hK.out _ _ ⟨(HG.out.cell 0 rfl), (HU.out.cell 1 rfl)⟩ (fun hHeld => ?_)
          clear hK K
          refine norm_ (a' := ?_) ?_ ?_
          rotate_left
          · show Act.put _ (some 58) _ = _
            simp only [Act.put, pA, pB, pC, pD, pE]; rfl
          refine pw_ 7 51 (bA 12 255) HT_.out ?_
          refine pw_ 8 59 (bA 12 511) HT_.out ?_
          refine pw_ 9 60 (bA 12 1023) HT_.out ?_
          refine pw_ 10 11 (bA 12 2047) HT_.out ?_
          refine pw_ 11 12 (bA 12 4095) HT_.out ?_
          refine done_ (done_of HT_.out (by kernel_rfl)) ?_
          clear hHeld HT_ HW_; clear c0 cu1
          refine gen_then (fun W => At W gg [.slice A1 n c1, .slice (some ⟨bo, 0, none⟩) n n] 138 ∧ Rws W base bo n vals out ∧ W.ownsRow w.heap.size 3 1 (.slice A1 n c1) n (ints (sorted l)) ∧ Below w.heap.size w W ∧ base ≤ W.heap.size) ?_ ?_
          · exact ⟨HG.out, ⟨HR.out.hat, HR.out.lv, HR.out.lo, HR.out.own, HR.out.apart⟩, HO.out, below_drewN (HB.out.drew) _, HS.out⟩
          clear HG HR HO HB HS HU HSU HSV HSR
          rintro W3 ⟨hg, hr, ho, hb, hs⟩
          by_cases hbb2 : bu = true ∧ bv = true
          · obtain ⟨rfl, rfl⟩ := hbb2
            have hcn : cu < n := HLU.out rfl
            have harc := HARC.out
            rw [if_pos ⟨rfl, rfl⟩] at harc
            obtain ⟨vl, hvl⟩ : ∃ vl, vals[cu]? = some vl := ⟨_, List.getElem?_eq_getElem (by rw [hr.lv]; exact hcn)⟩
            obtain ⟨r, hrr⟩ : ∃ r, out[cu]? = some r := ⟨_, List.getElem?_eq_getElem (by rw [hr.lo]; exact hcn)⟩
            have hrow := hr.own cu vl r hvl hrr
            obtain ⟨A2, c2, rfl⟩ := own_slice hrow
            have hgd : out.getD cu [] = r := by rw [List.getD_eq_getElem?_getD, hrr]; rfl
            rw [hgd] at harc
            have hrl : r.length ≤ j := HLEN.out r (List.mem_of_getElem? hrr)
            have u0 : (0 : Int) ≤ (cu : Int) := by omega
            have u1 : (cu : Int) < (n : Int) := by omega
            have d1 := hg.cell 1 rfl
            have d2 := hr.hat.cell cu hvl
            have fd := hr.hat.free cu
            have HARC2 := Lib.hid harc
            have HG := Lib.hid hg
            have HR := Lib.hid hr
            have HO := Lib.hid ho
            have HB := Lib.hid hb
            have HS := Lib.hid hs
            have HRW := Lib.hid hrow
            have HVL := Lib.hid hvl
            have HRR := Lib.hid hrr
            obtain ⟨i0, hi0, hz0, hz1, hz2⟩ := info_parts info_int
            clear hg hr ho hb hs hrow hvl hrr harc HARC hgd HLU
            go_wp2
            refine start_ (n := 17) (S := fun w' => w'.cell? ⟨gg, 1, none⟩ = some (.slice (some ⟨bo, 0, none⟩) n n) ∧ w'.cell? ⟨bo, cu, none⟩ = some (.slice A2 r.length c2)) (ds := [16]) (bA 17 0) (by kernel_rfl) rfl rfl ⟨d1, d2⟩ (fun hHeld => ?_)
            refine with_tabW tb64_12.tab12 tb64_12.bits12 (fun HT_ HW_ => ?_)
            refine pw_ 0 67 (bA 17 1) HT_.out ?_
            refine pw_ 1 68 (bA 17 3) HT_.out ?_
            refine pw_ 2 69 (bA 17 7) HT_.out ?_
            refine pw_ 4 71 (bA 17 23) HT_.out ?_
            refine pw_ 5 72 (bA 17 55) HT_.out ?_
            refine pw_ 6 73 (bA 17 119) HT_.out ?_
            refine pw_ 7 74 (bA 17 247) HT_.out ?_
            refine pw_ 9 76 (bA 17 759) HT_.out ?_
            refine pw_ 12 79 (bA 17 4855) HT_.out ?_
            refine tw_ 3 70 (bA 17 4863) HT_.out HW_.out hHeld (hv := by rintro w' ⟨s0, s1⟩; go_simp; with_reducible rfl) (h := ?_)
            refine tw_ 8 75 (bA 17 5119) HT_.out HW_.out hHeld (hv := by rintro w' ⟨s0, s1⟩; go_simp; with_reducible rfl) (h := ?_)
            refine pw_ 10 77 (bA 17 6143) HT_.out ?_
            refine tw_ 11 78 (bA 17 8191) HT_.out HW_.out hHeld (hv := by rintro w' ⟨s0, s1⟩; go_simp; with_reducible rfl) (h := ?_)
            refine one_ (i := 13) (N := some 80) (bA 17 16383) rfl rfl (one_of HT_.out (by kernel_rfl)) (by decide) (fun K hK => ?_)
            refine value_ (w1 := ?_) (v := ?_) (by rfl) rfl ?_ ?_
            rotate_left 2
            · go_simp
              constructor
              · rfl
              · rfl
            refine hK.out _ _ ⟨(HG.out.al.drew.cell 1 rfl), (HR.out.hat.al.drew.cell cu HVL.out)⟩ (fun hHeld => ?_)
            clear hK K
            refine norm_ (a' := ?_) ?_ ?_
            rotate_left
            · show Act.put _ (some 80) _ = _
              simp only [Act.put, pA, pB, pC, pD, pE]; rfl
            refine one_ (i := 14) (N := some 81) (bA 17 32767) rfl rfl (one_of HT_.out (by kernel_rfl)) (by decide) (fun K hK => ?_)
            refine step_append_lies _ (by rfl) (.tmp 78) (.tmp 80) 22 (by rfl) base 3 i0 (.int .i64 0) 1 8 Tryz.underlying22 hi0 hz0 hz1 hz2 rfl (by omega) _ r.length (nats r) (by rfl) ((HRW.out.alloc _).drew) ⟨W3.heap.size, 0, none⟩ 1 1 [.int .i64 (cv2 : Int)] (by rfl) rfl (cell_one_new _ _ _) (by simp [Value.oneCell']) (by omega) (by unfold maxLen; omega) (by omega) (by have := HS.out; simp; omega) _ rfl ?_
            intro g cap w1 hown hgrow hat hlt
            have hg1 := HG.out.al.drew.grown hgrow (own_off HRW.out HG.out (by decide))
            have hr1 := HR.out.hat.al.drew.grown hgrow (own_off HRW.out HR.out.hat (by decide))
            have fr1 := hr1.free cu
            have cr1 := hr1.cell cu HVL.out
            have HG3 := Lib.hid hg1; have HRR3 := Lib.hid hr1; have HGR := Lib.hid hgrow; have HOW := Lib.hid hown; have HAT := Lib.hid hat; clear hg1 hr1 hgrow hown hat
            refine hK.out _ _ ⟨(HG3.out.cell 1 rfl), (HRR3.out.cell cu HVL.out)⟩ (fun hHeld => ?_)
            clear hK K
            refine norm_ (a' := ?_) ?_ ?_
            rotate_left
            · show Act.put _ (some 81) _ = _
              simp only [Act.put, pA, pB, pC, pD, pE]; rfl
            refine pw_ 15 82 (bA 17 65535) HT_.out ?_
            refine last_ (i := 16) (N := none) (bA 17 131071) rfl rfl (one_of HT_.out (by kernel_rfl)) (by decide) (fun K hK => ?_)
            refine skip_ (w1 := ?_) (by rfl) rfl ?_ ?_
            rotate_left; · go_simp; rfl
            refine hK.out _ _ ?_; clear hK K
            refine done_ (done_of HT_.out (by kernel_rfl)) ?_
            clear hHeld HT_ HW_; clear d1 d2 fd fr1 cr1
            obtain ⟨k1, hk1⟩ : ∃ k1, gk = k1 + 1 := ⟨gk - 1, by have := HJK.out; omega⟩
            have HK1 := Lib.hid hk1
            clear hk1
            refine gen_q (fun W => MG w gg bo n base c1 A1 l arcs k1 (j + 1) (arcsS (sorted l) arcs (List.replicate n [])) W) ?_ ?_
            · have hrA : Rws ((W3.alloc (.cells #[.int .i64 (cv2 : Int)] 3)).drew) base bo n vals out :=
                HR.out.below (((Below.refl _ _).alloc (Nat.le_refl _) _).drew)
              have ho1 := HOW.out
              rw [nats_snoc] at ho1
              have hbl : base ≤ (W3.alloc (.cells #[.int .i64 (cv2 : Int)] 3)).drew.heap.size := by have := HS.out; simp; omega
              have hps := hrA.push (x := cv2) HVL.out HRR.out HL.out.2.2.1 HGR.out ho1 HAT.out
              have hbw : Below w.heap.size w ((W3.alloc (.cells #[.int .i64 (cv2 : Int)] 3)).drew) := (HB.out.alloc HB.out.size _).drew
              have hbase : w.heap.size ≤ base := by have := HL.out.1; have := HL.out.2.1; omega
              refine ⟨_, _, by have := HJK.out; have := HK1.out; omega, HARC2.out, ?_, HG3.out.off (by have := HG.out.ne HR.out.hat (by decide); exact this), hps, ?_, ((hbw.grown HGR.out hbw.size (fun k hk => Nat.le_trans hbase (HRW.out.lt k hk).1)).setCell HL.out.2.2.2.2 _), ?_⟩
              · intro r' hr'
                rcases List.mem_or_eq_of_mem_set hr' with h | h
                · exact Nat.le_succ_of_le (HLEN.out r' h)
                · subst h; rw [List.length_append]; simp; omega
              · have hx : (Value.slice A1 n c1).ownBlock = none ∨ (Value.slice A1 n c1).ownBlock ≠ (Value.slice A2 r.length c2).ownBlock := by
                  cases hob : (Value.slice A1 n c1).ownBlock with
                  | none => left; rfl
                  | some kb =>
                    right
                    intro he
                    have h1 := HK.out kb hob
                    have h2 := (HRW.out.lt kb he.symm).1
                    omega
                have h3 := World.ownsRow.kept (World.ownsRow.drew (World.ownsRow.alloc HO.out (.cells #[.int .i64 (cv2 : Int)] 3))) HGR.out hx
                exact ownsRow_setCell_other h3 (own_off h3 HRR3.out (by decide)).symm _
              · have := HGR.out.size; simp at *; omega
            clear HARC2 HG HR HO HB HS HRW HVL HRR HG3 HRR3 HGR HOW HAT hlt
            intro W5 hF
            have HF := Lib.hid hF
            clear hF
            go_wp2
            go_roundg k1
            case measure => have := HK1.out; omega
            case rel => exact ⟨j + 1, by go_num, HF⟩
          · have harc := HARC.out
            rw [if_neg hbb2] at harc
            have HARC2 := Lib.hid harc
            have HB := Lib.hid hb
            clear harc HARC hg hr ho hb hs
            have fin : MadePost w l arcs (.returned (.tuple #[.pointer none, .int .i64 5])) W3 := by
              refine ⟨HB.out, ?_⟩
              rw [HCL.out, HNL.out, if_pos rfl, ← HARC2.out]
            have HF := Lib.hid fin
            clear fin
            cases bu with
            | false =>
              go_wp2
              go_ret2
              exact HF.out
            | true =>
              cases bv with
              | true => exact absurd ⟨rfl, rfl⟩ hbb2
              | false =>
                go_wp2
                go_ret2
                exact HF.out
        · obtain rfl : gk = 0 := by omega
          have hjl : j = arcs.length := by omega
          rw [List.drop_eq_nil_of_le (by omega), arcsS] at harc
          have j0 : (arcs.length : Int) ≤ (j : Int) := by omega
          have hgr := hr.gr hg (fun r hx => by have := hlen r hx; omega)
          have HGR := Lib.hid hgr
          have HRD := Lib.hid (RdI.of_own ho).1
          have HB := Lib.hid hb
          have HARC := Lib.hid harc
          clear hg hr ho hb hs hlen harc hjk hgr hjl
          go_wp2
          go_ret2
          refine ⟨HB.out, ?_⟩
          rw [HCL.out, HNL.out, if_pos rfl, ← HARC.out]
          exact ⟨gg, A1, c1, rfl, HGR.out, HRD.out⟩
    · have e1 : ((cl : Int) == (n : Int)) = false := beq_eq_false_iff_ne.2 (by omega)
      have e2 : ((cl : Int) != (n : Int)) = true := by rw [bne, e1]; rfl
      have e3 : ¬ ((cl : Int) = (n : Int)) := by omega
      go_wp2_with fail
      go_ret2
      refine ⟨HB.out, ?_⟩
      rw [HCL.out, HNL.out, if_neg hcn]
      rfl

end Go.Proofs.YtgihncjllelonaaGreat.Scc
