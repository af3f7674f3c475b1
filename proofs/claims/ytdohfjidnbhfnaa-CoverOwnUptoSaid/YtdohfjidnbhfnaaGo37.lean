/- The laws of cover: tells. -/
import Derived.Test.YtdohfjidnbhfnaaGo36
namespace Go.Proofs.Ytdohfjidnbhfnaa.Lc
open Go Go.RowKit Go.Proofs.Ytdohfjidnbhfnaa.Mem Go.Proofs.Ytdohfjidnbhfnaa.Sl Go.Proofs.Ytdohfjidnbhfnaa.Scc Go.Proofs.Ytdohfjidnbhfnaa.Tj Go.Proofs.Ytdohfjidnbhfnaa.Lw Go.Proofs.Ytdohfjidnbhfnaa.Cv Go.Proofs.Ytdohfjidnbhfnaa.Rb Go.Proofs.YtdohfjidnbhfnaaW.PrintWords Go.Proofs.YtdohfjidnbhfnaaW.PrintLast
attribute [local go_sem ↓] Go.wp_at_zero Go.wp_at_succ
set_option linter.unusedSimpArgs false
set_option linter.unusedVariables false

def sz (L : Nat → List (Int × Int)) (i : Nat) : Nat := (((List.range i).map L).map List.length).sum
theorem sz_next (L : Nat → List (Int × Int)) (i : Nat) : sz L (i + 1) = sz L i + (L i).length := by simp [sz, List.range_succ]
theorem sz_le {L : Nat → List (Int × Int)} {n : Nat} (h : ∀ v, v < n → (L v).length ≤ 256) : ∀ i, i ≤ n → sz L i ≤ i * 256
  | 0, _ => by simp [sz]
  | i + 1, hi => by
    rw [sz_next]
    have := sz_le h i (by omega)
    have := h i (by omega)
    omega
def oddL (n : Nat) : List Int := [-1, n, 4611686018427387904, -4611686018427387904]
theorem odd_at {n i : Nat} (h : i < 4) (hn : n ≤ 256) : ∃ x, (oddL n)[i]? = some x ∧ ¬ (0 ≤ x ∧ x < (n : Int)) := by
  have hc : i = 0 ∨ i = 1 ∨ i = 2 ∨ i = 3 := by omega
  rcases hc with rfl | rfl | rfl | rfl
  · exact ⟨_, rfl, by omega⟩
  · exact ⟨_, rfl, by omega⟩
  · exact ⟨_, rfl, by omega⟩
  · exact ⟨_, rfl, by omega⟩
theorem lab_eq {w0 w : World} {gc n gn ga : Nat} {a0 arcs : List (Int × Int)} {nd : List Nd} {al : List Int} {L : Nat → List (Int × Int)} {rk : Nat → Nat} (h : Kn w0 w gc n a0 arcs gn ga nd al L rk) {v : Nat} (hv : v < n) {out : List (Int × Int)} (ho : LabI n (postN (parsOf n a0)) (fun x => rB (EA arcs) v x) n out) : out = L v := by
  have h1 := h.labOk hv
  refine Sp.canon_ext ho.1 h1.1.1 fun y => ?_
  rw [h1.2 y, ho.2.2 y]
  constructor
  · rintro ⟨x, a, b, c, d⟩
    exact ⟨x, a, rB_iff.1 b, c⟩
  · rintro ⟨x, a, b, c⟩
    exact ⟨x, a, rB_iff.2 b, c, (post_of h.r a).2.2⟩

def tb16_10.T10 : Bool × List (List Nat × List Nat) := (true, [([], []), ([], []), ([0, 1], [0, 1]), ([], []), ([3], [3]), ([], []), ([4, 5], [4, 5]), ([6], [6]), ([2, 7], [2, 7]), ([8, 2], [8]), ([9], [9]), ([9], [9]), ([10, 11, 9, 9], [9, 10, 11]), ([9], [9]), ([13, 9], [9, 13]), ([9], [9]), ([14, 15, 9], [9, 14, 15]), ([16, 9], [9, 16]), ([12, 17, 9], [9, 12, 17]), ([9, 18], [9, 18]), ([19, 12], [19]), ([20], [20]), ([20], [20]), ([21, 22, 20, 20], [20, 21, 22]), ([20], [20]), ([20], [20]), ([24, 25, 23, 20], [20, 24, 25]), ([23, 26, 20], [20, 23, 26]), ([20, 27], [20, 27]), ([28, 26], [28]), ([29], [29]), ([29], [29]), ([31, 29], [29, 31]), ([29], [29]), ([32, 33, 29], [29, 32, 33]), ([34, 29], [29, 34]), ([30, 35, 29, 29], [29, 30, 35]), ([29], [29]), ([36, 37, 29], [29, 36, 37]), ([29, 38], [29, 38]), ([39, 36], [39]), ([40], [40]), ([40], [40]), ([41, 42, 40, 40], [40, 41, 42]), ([40], [40]), ([43, 44, 43, 40], [40, 43, 44]), ([45, 40], [40, 45]), ([40, 46], [40, 46])])
def tb16_10.B10 : List Nat := [0, 0, 3, 0, 8, 0, 56, 120, 255, 511, 1023, 1023, 4095, 1023, 9215, 1023, 58367, 123903, 262143, 524287, 1048575, 2097151, 2097151, 8388607, 2097151, 2097151, 67108863, 134217727, 268435455, 536870911, 1073741823, 1073741823, 3221225471, 1073741823, 16106127359, 33285996543, 68719476735, 1073741823, 274877906943, 549755813887, 1099511627775, 2199023255551, 2199023255551, 8796093022207, 2199023255551, 35184372088831, 70368744177663, 140737488355327]
theorem tb16_10.tab10 : rtab .any (opsOf Try.f16 10) = tb16_10.T10 := by kernel_rfl
theorem tb16_10.bits10 : waitsOk tb16_10.T10.2 tb16_10.B10 = true := by kernel_rfl
def tb16_15.T15 : Bool × List (List Nat × List Nat) := (true, [([], []), ([], []), ([], []), ([0, 1, 2], [0, 1, 2]), ([], []), ([4], [4]), ([], []), ([5, 6], [5, 6]), ([7], [7]), ([], []), ([8, 9], [8, 9]), ([10], [10]), ([3, 11], [3, 11])])
def tb16_15.B15 : List Nat := [0, 0, 0, 7, 0, 16, 0, 112, 240, 0, 1008, 2032, 4095]
theorem tb16_15.tab15 : rtab .any (opsOf Try.f16 15) = tb16_15.T15 := by kernel_rfl
theorem tb16_15.bits15 : waitsOk tb16_15.T15.2 tb16_15.B15 = true := by kernel_rfl
set_option maxHeartbeats 16000000 in
set_option maxRecDepth 100000 in
theorem tells_calls {w0 : World} {gc n gn ga : Nat} {a0 arcs : List (Int × Int)} {nd : List Nd} {al : List Int} {L : Nat → List (Int × Int)} {rk : Nat → Nat} (w : World) (A AE AP AQ AR : Option Addr) (c m ce cp cq cr : Nat) (hK : Kn w0 w gc n a0 arcs gn ga nd al L rk) (hn : n ≤ 40)
    (hp : RdI w AP (parsOf n a0)) (hq : RdI w AQ (postsOf n (parsOf n a0))) (hr : RdC w AR n (EA arcs)) :
    Calls Try.prog 16 #[.pointer (some ⟨gc, 0, none⟩), cV A n c AE m ce AP n cp AQ n cq AR n cr] w fun e w' => e = .returned (.bool true) ∧ Below w.heap.size w w' := by
  unfold cV
  have HX := Lib.hid (And.intro hK (And.intro hp (And.intro hq hr)))
  have n2 : (n : Int) ≤ 40 := by omega
  have nn1 : wrap64 ((n : Int) + 1) = (n : Int) + 1 := by unfold wrap64; omega
  clear hK hp hq hr
  go_enter Try.func16, Try.ntmps16
  go_upto_region 1 with (fail)
  refine gen_world (fun W => At W w.heap.size [.slice A n c, .slice AE m ce, .int .i64 0, .int .i64 0, .slice AP n cp, .slice AQ n cq, .slice AR n cr] 30 ∧ Below w.heap.size w W) ?_ ?_
  · exact ⟨At.made rfl rfl, (Below.refl _ _).alloc (Nat.le_refl _) _⟩
  obtain ⟨gx, hgx⟩ : ∃ gx, w.heap.size = gx := ⟨_, rfl⟩
  rw [hgx]
  rintro w3 ⟨hat, hb⟩
  rw [← hgx] at hb
  have HAT0 := Lib.hid hat
  have HB0 := Lib.hid hb
  have HGX := Lib.hid hgx
  have HK0 := Lib.hid (HX.out.1.below hb)
  clear hat hb hgx
  have HLN := Lib.hid (HK0.out.len_)
  have HN0 := Lib.hid (node_no HK0.out.c.c 0 (.inl (by omega)) (by omega))
  have HN1 := Lib.hid (node_no HK0.out.c.c ((n : Int) + 1) (.inr (by omega)) (by omega))
  have HN2 := Lib.hid (node_no HK0.out.c.c (-4611686018427387904) (.inl (by omega)) (by omega))
  have q5 := HAT0.out.cell 5 rfl
  go_wp2_with fail
  refine HLN.out.mono ?_
  clear HLN
  rintro e wx ⟨rfl, rfl⟩
  go_wp2_with fail
  refine HN0.out.mono ?_
  clear HN0
  rintro e wx ⟨rfl, rfl⟩
  go_wp2_with fail
  refine HN1.out.mono ?_
  clear HN1
  rintro e wx ⟨rfl, rfl⟩
  go_wp2_with fail
  refine HN2.out.mono ?_
  clear HN2
  rintro e wx ⟨rfl, rfl⟩
  clear q5
  go_wp2_with fail
  go_loopg [6, 7] n (fun kq v6 v7 w' => ∃ i : Nat, v7 = .int .i64 (i : Int) ∧ v6 = .int .i64 (sz L i : Int) ∧ Hid (i + kq = n ∧ At w' gx [.slice A n c, .slice AE m ce, .int .i64 0, .int .i64 0, .slice AP n cp, .slice AQ n cq, .slice AR n cr] 30 ∧ Below w.heap.size w w'))
  case atStart => exact ⟨0, rfl, by simp [sz], Lib.hid ⟨by omega, HAT0.out, HB0.out⟩⟩
  case round =>
    clear HAT0 HB0 HK0
    obtain ⟨v, rfl, rfl, hI⟩ := hrel
    obtain ⟨hvk, hat, hb⟩ := hI.out
    clear hI
    by_cases hv : v < n
    · obtain ⟨k1, rfl⟩ : ∃ k1, gk = k1 + 1 := ⟨gk - 1, by omega⟩
      have hKr := HX.out.1.below hb
      obtain ⟨pv, hpv⟩ : ∃ pv, (parsOf n a0)[v]? = some pv := ⟨_, List.getElem?_eq_getElem (by rw [hKr.r.len]; exact hv)⟩
      obtain ⟨bp, rfl, qp'⟩ := HX.out.2.1 v pv hpv
      obtain ⟨bq, rfl, qq'⟩ := HX.out.2.2.1 v _ (postsOf_at hv)
      obtain ⟨br, BR, cB, rfl, qr', hcell⟩ := HX.out.2.2.2 v hv
      have hLR := label_ref wr A n c AE m ce (some ⟨bp, 0, none⟩) n cp (some ⟨bq, 0, none⟩) cq (some ⟨br, 0, none⟩) cr (parsOf n a0) rk (EA arcs) hKr.r hKr.le v hv (HX.out.2.2.1.below hb) (HX.out.2.2.2.below hb)
      unfold cV at hLR
      have q0 := hat.cell 0 rfl
      have q1 := hat.cell 1 rfl
      have q2 := hat.cell 2 rfl
      have q3 := hat.cell 3 rfl
      have q4 := hat.cell 4 rfl
      have q5 := hat.cell 5 rfl
      have q6 := hat.cell 6 rfl
      have v0 : (0 : Int) ≤ (v : Int) := by omega
      have v1 : (v : Int) < (n : Int) := by omega
      have HLR := Lib.hid hLR
      have HC := Lib.hid (And.intro qp' (And.intro qq' (And.intro qr' hcell)))
      have HPV := Lib.hid hpv
      have HAT := Lib.hid hat
      have HB := Lib.hid hb
      have HKR := Lib.hid hKr
      clear hLR qp' qq' qr' hcell hpv hat hb hKr
      go_wp2_with fail
      refine HLR.out.mono ?_
      clear HLR q0 q1 q2 q3 q4 q5 q6
      rintro e w4 ⟨vl, out, rfl, ho', hlab, hb4⟩
      obtain rfl := lab_eq HKR.out hv hlab
      have hrun := HKR.out.runs hv
      have hszl := sz_le (L := L) (n := n) (fun v hv => HKR.out.runs hv) v (by omega)
      have hnx := sz_next L v
      have hBr : Below w.heap.size w w4 := HB.out.trans (hb4.mono HB.out.size)
      have hat4 := HAT.out.below hb4 HAT.out.lt
      have ho := Lw.own_mono (B' := 0) ho' (Nat.zero_le _)
      clear HKR HAT HB hlab hb4 ho' wr
      obtain ⟨wr, hwr⟩ : ∃ wr, w4 = wr := ⟨_, rfl⟩
      rw [hwr] at ho hBr hat4 ⊢
      clear hwr w4
      have hK4 := HX.out.1.below hBr
      obtain ⟨Al, cl, rfl⟩ := Lw.own_slice ho
      have hrd := (RdA.of_own (l := L v) ho).1
      have hLBt : ∀ W, Below wr.heap.size wr W → _ := fun W hW => (hK4.below hW).label_ hv
      obtain ⟨po, hpo⟩ : ∃ po, postN (parsOf n a0) v = po := ⟨_, rfl⟩
      obtain ⟨lo, hlo⟩ : ∃ lo, lowN (parsOf n a0) v = lo := ⟨_, rfl⟩
      have hPA : ∀ W, Below wr.heap.size wr W → Calls Try.prog 21 #[.pointer (some ⟨gc, 0, none⟩), .int .i64 (v : Int)] W fun e w' => e = .returned (.int .i64 pv) ∧ w' = W := fun W hW => by
        have h := (hK4.below hW).par_ hv
        rw [List.getD_eq_getElem?_getD, HPV.out] at h
        exact h
      have hPO : ∀ W, Below wr.heap.size wr W → Calls Try.prog 20 #[.pointer (some ⟨gc, 0, none⟩), .int .i64 (v : Int)] W fun e w' => e = .returned (.int .i64 (po : Int)) ∧ w' = W := fun W hW => hpo ▸ (hK4.below hW).post_ hv
      have hLO : ∀ W, Below wr.heap.size wr W → Calls Try.prog 19 #[.pointer (some ⟨gc, 0, none⟩), .int .i64 (v : Int)] W fun e w' => e = .returned (.int .i64 (lo : Int)) ∧ w' = W := fun W hW => hlo ▸ (hK4.below hW).low_ hv
      have hRL : ∀ W, Below wr.heap.size wr W → Calls Try.prog 35 #[.agg #[.slice A n c, .slice AE m ce, .int .i64 0, .int .i64 0, .slice (some ⟨bp, 0, none⟩) n cp, .slice (some ⟨bq, 0, none⟩) n cq, .slice (some ⟨br, 0, none⟩) n cr], .int .i64 (v : Int)] W fun e w' => e = .returned (.int .i64 (lo : Int)) ∧ Below W.heap.size W w' := fun W hW => by
        have hbw := hBr.trans (hW.mono hBr.size)
        have h := low_ref W A n c AE m ce (some ⟨bp, 0, none⟩) cp (some ⟨bq, 0, none⟩) cq (some ⟨br, 0, none⟩) n cr (parsOf n a0) rk hK4.r hK4.le v hv (HX.out.2.1.below hbw) (HX.out.2.2.1.below hbw)
        rw [hlo] at h
        exact h
      have hNO : ∀ W, Below wr.heap.size wr W → Calls Try.prog 22 #[.pointer (some ⟨gc, 0, none⟩), .int .i64 (po : Int)] W fun e w' => e = .returned (.int .i64 (v : Int)) ∧ w' = W := fun W hW => hpo ▸ (hK4.below hW).node_ hv
      have hSSt : ∀ W A c, RdA W A (L v) → Below wr.heap.size wr W → _ := fun W A c hA hW => samespans_calls W A Al c cl (L v) hA (hrd.below hW) (by omega)
      have hRE : ∀ (x : Nat) (b : Bool), x < n → rB (EA arcs) v x = b → ∀ W, Below wr.heap.size wr W → Calls Try.prog 14 #[.pointer (some ⟨gc, 0, none⟩), .int .i64 (v : Int), .int .i64 (x : Int)] W fun e w' => e = .returned (.bool b) ∧ Below W.heap.size W w' := fun x b hx hb W hW => hb ▸ (hK4.below hW).reaches_ hv hx
      obtain ⟨Lv, hLv⟩ : ∃ Lv, L v = Lv := ⟨_, rfl⟩
      rw [hLv] at ho hrd hLBt hSSt hrun hnx ⊢
      obtain ⟨s0, hs0⟩ : ∃ s0, sz L v = s0 := ⟨_, rfl⟩
      rw [hs0] at hszl hnx ⊢
      have q0 := hat4.cell 0 rfl
      have q1 := hat4.cell 1 rfl
      have q2 := hat4.cell 2 rfl
      have q3 := hat4.cell 3 rfl
      have q4 := hat4.cell 4 rfl
      have q5 := hat4.cell 5 rfl
      have q6 := hat4.cell 6 rfl
      have qp := keep_at hBr HC.out.1
      have qq := keep_at hBr HC.out.2.1
      rw [hpo] at qq
      have HPA := Lib.hid hPA
      have HPO := Lib.hid hPO
      have HLO := Lib.hid hLO
      have HRL := Lib.hid hRL
      have HNO := Lib.hid hNO
      have HLB := Lib.hid hLBt
      have HSS := Lib.hid hSSt
      have HRE := Lib.hid hRE
      have HNX := Lib.hid hnx
      have HAT := Lib.hid hat4
      have HB := Lib.hid hBr
      have hsum : s0 + Lv.length ≤ 100000 := by omega
      clear hPA hPO hLO hRL hNO hLBt hSSt hRE hnx hat4 hBr hK4 ho hrd hpo hlo hLv hs0 hszl HPV
      go_upto_region 10 with (fail)
      refine start_ (n := 48) (S := fun w' => w'.cell? ⟨gx, 0, none⟩ = some (.slice A n c) ∧ w'.cell? ⟨gx, 1, none⟩ = some (.slice AE m ce) ∧ w'.cell? ⟨gx, 2, none⟩ = some (.int .i64 0) ∧ w'.cell? ⟨gx, 3, none⟩ = some (.int .i64 0) ∧ w'.cell? ⟨gx, 4, none⟩ = some (.slice (some ⟨bp, 0, none⟩) n cp) ∧ w'.cell? ⟨gx, 5, none⟩ = some (.slice (some ⟨bq, 0, none⟩) n cq) ∧ w'.cell? ⟨gx, 6, none⟩ = some (.slice (some ⟨br, 0, none⟩) n cr) ∧ w'.cell? ⟨bp, v, none⟩ = some (.int .i64 pv) ∧ w'.cell? ⟨bq, v, none⟩ = some (.int .i64 (po : Int))) (ds := []) (bA 48 0) (by kernel_rfl) rfl rfl ⟨q0, q1, q2, q3, q4, q5, q6, qp, qq⟩ (fun hHeld => ?_)
      refine with_tabW tb16_10.tab10 tb16_10.bits10 (fun HT_ HW_ => ?_)
      refine pure_ (i := 0) (N := some 48) (v := ?_) (a' := ?_) (bA 48 1) rfl rfl (any_of HT_.out (by kernel_rfl)) (fun _ _ _ h => h) (Or.inl ⟨by rfl, ?_⟩) ?_ ?_
      rotate_left; · intro w'; go_simp; with_reducible rfl
      rotate_left; · simp only [Act.put, pA, pB, pC, pD, pE]; rfl
      refine pure_ (i := 1) (N := some 49) (v := ?_) (a' := ?_) (bA 48 3) rfl rfl (any_of HT_.out (by kernel_rfl)) (fun _ _ _ h => h) (Or.inl ⟨by rfl, ?_⟩) ?_ ?_
      rotate_left; · intro w'; go_simp; with_reducible rfl
      rotate_left; · simp only [Act.put, pA, pB, pC, pD, pE]; rfl
      refine pure_ (i := 3) (N := some 51) (v := ?_) (a' := ?_) (bA 48 11) rfl rfl (any_of HT_.out (by kernel_rfl)) (fun _ _ _ h => h) (Or.inl ⟨by rfl, ?_⟩) ?_ ?_
      rotate_left; · intro w'; go_simp; with_reducible rfl
      rotate_left; · simp only [Act.put, pA, pB, pC, pD, pE]; rfl
      refine pure_ (i := 5) (N := some 53) (v := ?_) (a' := ?_) (bA 48 43) rfl rfl (any_of HT_.out (by kernel_rfl)) (fun _ _ _ h => h) (Or.inl ⟨by rfl, ?_⟩) ?_ ?_
      rotate_left; · intro w'; go_simp; with_reducible rfl
      rotate_left; · simp only [Act.put, pA, pB, pC, pD, pE]; rfl
      refine take_ (i := 4) (N := some 52) (v := ?_) (a' := ?_) (bA 48 59) rfl rfl (take_ofW HT_.out HW_.out (by kernel_rfl)) (fun _ _ _ h => h) (Or.inl ⟨by rfl, ?_⟩) hHeld ?_ ?_
      rotate_left
      · rintro w' ⟨s0, s1, s2, s3, s4, s5, s6, s7, s8⟩
        go_simp; with_reducible rfl
      rotate_left; · simp only [Act.put, pA, pB, pC, pD, pE]; rfl
      refine pure_ (i := 6) (N := some 54) (v := ?_) (a' := ?_) (bA 48 123) rfl rfl (any_of HT_.out (by kernel_rfl)) (fun _ _ _ h => h) (Or.inl ⟨by rfl, ?_⟩) ?_ ?_
      rotate_left; · intro w'; go_simp; with_reducible rfl
      rotate_left; · simp only [Act.put, pA, pB, pC, pD, pE]; rfl
      refine take_ (i := 7) (N := some 55) (v := ?_) (a' := ?_) (bA 48 251) rfl rfl (take_ofW HT_.out HW_.out (by kernel_rfl)) (fun _ _ _ h => h) (Or.inl ⟨by rfl, ?_⟩) hHeld ?_ ?_
      rotate_left
      · rintro w' ⟨s0, s1, s2, s3, s4, s5, s6, s7, s8⟩
        go_simp; with_reducible rfl
      rotate_left; · simp only [Act.put, pA, pB, pC, pD, pE]; rfl
      refine one_ (i := 2) (N := some 50) (bA 48 255) rfl rfl (one_of HT_.out (by kernel_rfl)) (by decide) (fun K hK => ?_)
      refine goes_ Try.func21 (by kernel_rfl) rfl #[.pointer (some ⟨gc, 0, none⟩), .int .i64 (v : Int)] (by rfl) rfl rfl (by simp only [List.map_toArray, List.map_cons, List.map_nil]; rfl) ?_
      with_reducible refine ((HPA.out wr.drew (Below.refl _ _).drew)).mono ?_
      rintro e wa ⟨rfl, rfl⟩
      refine ⟨_, rfl, ?_⟩
      refine hK.out _ _ ⟨q0, q1, q2, q3, q4, q5, q6, qp, qq⟩ (fun hHeld => ?_)
      clear hK K
      refine norm_ (a' := ?_) ?_ ?_
      rotate_left
      · show Act.put _ (some 50) _ = _
        simp only [Act.put, pA, pB, pC, pD, pE]; rfl
      refine pure_ (i := 8) (N := some 56) (v := ?_) (a' := ?_) (bA 48 511) rfl rfl (any_of HT_.out (by kernel_rfl)) (fun _ _ _ h => h) (Or.inl ⟨by rfl, ?_⟩) ?_ ?_
      rotate_left; · intro w'; go_simp; with_reducible rfl
      rotate_left; · simp only [Act.put, pA, pB, pC, pD, pE]; rfl
      refine pure_ (i := 9) (N := some 57) (v := ?_) (a' := ?_) (bA 48 1023) rfl rfl (any_of HT_.out (by kernel_rfl)) (fun _ _ _ h => h) (Or.inl ⟨by rfl, ?_⟩) ?_ ?_
      rotate_left; · intro w'; go_simp; with_reducible rfl
      rotate_left; · simp only [Act.put, pA, pB, pC, pD, pE]; rfl
      refine pure_ (i := 10) (N := some 58) (v := ?_) (a' := ?_) (bA 48 2047) rfl rfl (any_of HT_.out (by kernel_rfl)) (fun _ _ _ h => h) (Or.inl ⟨by rfl, ?_⟩) ?_ ?_
      rotate_left; · intro w'; go_simp; with_reducible rfl
      rotate_left; · simp only [Act.put, pA, pB, pC, pD, pE]; rfl
      refine pure_ (i := 11) (N := some 59) (v := ?_) (a' := ?_) (bA 48 4095) rfl rfl (any_of HT_.out (by kernel_rfl)) (fun _ _ _ h => h) (Or.inl ⟨by rfl, ?_⟩) ?_ ?_
      rotate_left; · intro w'; go_simp; with_reducible rfl
      rotate_left; · simp only [Act.put, pA, pB, pC, pD, pE]; rfl
      refine pure_ (i := 13) (N := some 61) (v := ?_) (a' := ?_) (bA 48 12287) rfl rfl (any_of HT_.out (by kernel_rfl)) (fun _ _ _ h => h) (Or.inl ⟨by rfl, ?_⟩) ?_ ?_
      rotate_left; · intro w'; go_simp; with_reducible rfl
      rotate_left; · simp only [Act.put, pA, pB, pC, pD, pE]; rfl
      refine pure_ (i := 15) (N := some 63) (v := ?_) (a' := ?_) (bA 48 45055) rfl rfl (any_of HT_.out (by kernel_rfl)) (fun _ _ _ h => h) (Or.inl ⟨by rfl, ?_⟩) ?_ ?_
      rotate_left; · intro w'; go_simp; with_reducible rfl
      rotate_left; · simp only [Act.put, pA, pB, pC, pD, pE]; rfl
      refine take_ (i := 14) (N := some 62) (v := ?_) (a' := ?_) (bA 48 61439) rfl rfl (take_ofW HT_.out HW_.out (by kernel_rfl)) (fun _ _ _ h => h) (Or.inl ⟨by rfl, ?_⟩) hHeld ?_ ?_
      rotate_left
      · rintro w' ⟨s0, s1, s2, s3, s4, s5, s6, s7, s8⟩
        go_simp; with_reducible rfl
      rotate_left; · simp only [Act.put, pA, pB, pC, pD, pE]; rfl
      refine pure_ (i := 16) (N := some 64) (v := ?_) (a' := ?_) (bA 48 126975) rfl rfl (any_of HT_.out (by kernel_rfl)) (fun _ _ _ h => h) (Or.inl ⟨by rfl, ?_⟩) ?_ ?_
      rotate_left; · intro w'; go_simp; with_reducible rfl
      rotate_left; · simp only [Act.put, pA, pB, pC, pD, pE]; rfl
      refine take_ (i := 17) (N := some 65) (v := ?_) (a' := ?_) (bA 48 258047) rfl rfl (take_ofW HT_.out HW_.out (by kernel_rfl)) (fun _ _ _ h => h) (Or.inl ⟨by rfl, ?_⟩) hHeld ?_ ?_
      rotate_left
      · rintro w' ⟨s0, s1, s2, s3, s4, s5, s6, s7, s8⟩
        go_simp; with_reducible rfl
      rotate_left; · simp only [Act.put, pA, pB, pC, pD, pE]; rfl
      refine one_ (i := 12) (N := some 60) (bA 48 262143) rfl rfl (one_of HT_.out (by kernel_rfl)) (by decide) (fun K hK => ?_)
      refine goes_ Try.func20 (by kernel_rfl) rfl #[.pointer (some ⟨gc, 0, none⟩), .int .i64 (v : Int)] (by rfl) rfl rfl (by simp only [List.map_toArray, List.map_cons, List.map_nil]; rfl) ?_
      with_reducible refine ((HPO.out wr.drew (Below.refl _ _).drew)).mono ?_
      rintro e wa ⟨rfl, rfl⟩
      refine ⟨_, rfl, ?_⟩
      refine hK.out _ _ ⟨q0, q1, q2, q3, q4, q5, q6, qp, qq⟩ (fun hHeld => ?_)
      clear hK K
      refine norm_ (a' := ?_) ?_ ?_
      rotate_left
      · show Act.put _ (some 60) _ = _
        simp only [Act.put, pA, pB, pC, pD, pE]; rfl
      refine pure_ (i := 18) (N := some 66) (v := ?_) (a' := ?_) (bA 48 524287) rfl rfl (any_of HT_.out (by kernel_rfl)) (fun _ _ _ h => h) (Or.inl ⟨by rfl, ?_⟩) ?_ ?_
      rotate_left; · intro w'; go_simp; with_reducible rfl
      rotate_left; · simp only [Act.put, pA, pB, pC, pD, pE]; rfl
      refine pure_ (i := 19) (N := some 67) (v := ?_) (a' := ?_) (bA 48 1048575) rfl rfl (any_of HT_.out (by kernel_rfl)) (fun _ _ _ h => h) (Or.inl ⟨by rfl, ?_⟩) ?_ ?_
      rotate_left; · intro w'; go_simp; with_reducible rfl
      rotate_left; · simp only [Act.put, pA, pB, pC, pD, pE]; rfl
      refine pure_ (i := 20) (N := some 68) (v := ?_) (a' := ?_) (bA 48 2097151) rfl rfl (any_of HT_.out (by kernel_rfl)) (fun _ _ _ h => h) (Or.inl ⟨by rfl, ?_⟩) ?_ ?_
      rotate_left; · intro w'; go_simp; with_reducible rfl
      rotate_left; · simp only [Act.put, pA, pB, pC, pD, pE]; rfl
      refine pure_ (i := 21) (N := some 69) (v := ?_) (a' := ?_) (bA 48 4194303) rfl rfl (any_of HT_.out (by kernel_rfl)) (fun _ _ _ h => h) (Or.inl ⟨by rfl, ?_⟩) ?_ ?_
      rotate_left; · intro w'; go_simp; with_reducible rfl
      rotate_left; · simp only [Act.put, pA, pB, pC, pD, pE]; rfl
      refine pure_ (i := 22) (N := some 70) (v := ?_) (a' := ?_) (bA 48 8388607) rfl rfl (any_of HT_.out (by kernel_rfl)) (fun _ _ _ h => h) (Or.inl ⟨by rfl, ?_⟩) ?_ ?_
      rotate_left; · intro w'; go_simp; with_reducible rfl
      rotate_left; · simp only [Act.put, pA, pB, pC, pD, pE]; rfl
      refine pure_ (i := 25) (N := some 73) (v := ?_) (a' := ?_) (bA 48 41943039) rfl rfl (any_of HT_.out (by kernel_rfl)) (fun _ _ _ h => h) (Or.inl ⟨by rfl, ?_⟩) ?_ ?_
      rotate_left; · intro w'; go_simp; with_reducible rfl
      rotate_left; · simp only [Act.put, pA, pB, pC, pD, pE]; rfl
      refine take_ (i := 24) (N := some 72) (v := ?_) (a' := ?_) (bA 48 58720255) rfl rfl (take_ofW HT_.out HW_.out (by kernel_rfl)) (fun _ _ _ h => h) (Or.inl ⟨by rfl, ?_⟩) hHeld ?_ ?_
      rotate_left
      · rintro w' ⟨s0, s1, s2, s3, s4, s5, s6, s7, s8⟩
        go_simp; with_reducible rfl
      rotate_left; · simp only [Act.put, pA, pB, pC, pD, pE]; rfl
      refine one_ (i := 23) (N := some 71) (bA 48 67108863) rfl rfl (one_of HT_.out (by kernel_rfl)) (by decide) (fun K hK => ?_)
      refine goes_ Try.func19 (by kernel_rfl) rfl #[.pointer (some ⟨gc, 0, none⟩), .int .i64 (v : Int)] (by rfl) rfl rfl (by simp only [List.map_toArray, List.map_cons, List.map_nil]; rfl) ?_
      with_reducible refine ((HLO.out wr.drew (Below.refl _ _).drew)).mono ?_
      rintro e wa ⟨rfl, rfl⟩
      refine ⟨_, rfl, ?_⟩
      refine hK.out _ _ ⟨q0, q1, q2, q3, q4, q5, q6, qp, qq⟩ (fun hHeld => ?_)
      clear hK K
      refine norm_ (a' := ?_) ?_ ?_
      rotate_left
      · show Act.put _ (some 71) _ = _
        simp only [Act.put, pA, pB, pC, pD, pE]; rfl
      refine one_ (i := 26) (N := some 74) (bA 48 134217727) rfl rfl (one_of HT_.out (by kernel_rfl)) (by decide) (fun K hK => ?_)
      refine goes_ Try.func35 (by kernel_rfl) rfl #[.agg #[.slice A n c, .slice AE m ce, .int .i64 0, .int .i64 0, .slice (some ⟨bp, 0, none⟩) n cp, .slice (some ⟨bq, 0, none⟩) n cq, .slice (some ⟨br, 0, none⟩) n cr], .int .i64 (v : Int)] (by rfl) rfl rfl (by simp only [List.map_toArray, List.map_cons, List.map_nil]; rfl) ?_
      with_reducible refine ((HRL.out wr.drew (Below.refl _ _).drew)).mono ?_
      rintro e wb ⟨rfl, hb_wb⟩
      refine ⟨_, rfl, ?_⟩
      refine hK.out _ _ ⟨(keep_at hb_wb (show (wr.drew).cell? _ = _ from q0)), (keep_at hb_wb (show (wr.drew).cell? _ = _ from q1)), (keep_at hb_wb (show (wr.drew).cell? _ = _ from q2)), (keep_at hb_wb (show (wr.drew).cell? _ = _ from q3)), (keep_at hb_wb (show (wr.drew).cell? _ = _ from q4)), (keep_at hb_wb (show (wr.drew).cell? _ = _ from q5)), (keep_at hb_wb (show (wr.drew).cell? _ = _ from q6)), (keep_at hb_wb (show (wr.drew).cell? _ = _ from qp)), (keep_at hb_wb (show (wr.drew).cell? _ = _ from qq))⟩ (fun hHeld => ?_)
      clear hK K
      refine norm_ (a' := ?_) ?_ ?_
      rotate_left
      · show Act.put _ (some 74) _ = _
        simp only [Act.put, pA, pB, pC, pD, pE]; rfl
      refine pure_ (i := 27) (N := some 75) (v := ?_) (a' := ?_) (bA 48 268435455) rfl rfl (any_of HT_.out (by kernel_rfl)) (fun _ _ _ h => h) (Or.inl ⟨by rfl, ?_⟩) ?_ ?_
      rotate_left; · intro w'; go_simp; with_reducible rfl
      rotate_left; · simp only [Act.put, pA, pB, pC, pD, pE]; rfl
      refine pure_ (i := 28) (N := some 76) (v := ?_) (a' := ?_) (bA 48 536870911) rfl rfl (any_of HT_.out (by kernel_rfl)) (fun _ _ _ h => h) (Or.inl ⟨by rfl, ?_⟩) ?_ ?_
      rotate_left; · intro w'; go_simp; with_reducible rfl
      rotate_left; · simp only [Act.put, pA, pB, pC, pD, pE]; rfl
      refine pure_ (i := 29) (N := some 77) (v := ?_) (a' := ?_) (bA 48 1073741823) rfl rfl (any_of HT_.out (by kernel_rfl)) (fun _ _ _ h => h) (Or.inl ⟨by rfl, ?_⟩) ?_ ?_
      rotate_left; · intro w'; go_simp; with_reducible rfl
      rotate_left; · simp only [Act.put, pA, pB, pC, pD, pE]; rfl
      refine pure_ (i := 30) (N := some 78) (v := ?_) (a' := ?_) (bA 48 2147483647) rfl rfl (any_of HT_.out (by kernel_rfl)) (fun _ _ _ h => h) (Or.inl ⟨by rfl, ?_⟩) ?_ ?_
      rotate_left; · intro w'; go_simp; with_reducible rfl
      rotate_left; · simp only [Act.put, pA, pB, pC, pD, pE]; rfl
      refine pure_ (i := 31) (N := some 79) (v := ?_) (a' := ?_) (bA 48 4294967295) rfl rfl (any_of HT_.out (by kernel_rfl)) (fun _ _ _ h => h) (Or.inl ⟨by rfl, ?_⟩) ?_ ?_
      rotate_left; · intro w'; go_simp; with_reducible rfl
      rotate_left; · simp only [Act.put, pA, pB, pC, pD, pE]; rfl
      refine pure_ (i := 33) (N := some 81) (v := ?_) (a' := ?_) (bA 48 12884901887) rfl rfl (any_of HT_.out (by kernel_rfl)) (fun _ _ _ h => h) (Or.inl ⟨by rfl, ?_⟩) ?_ ?_
      rotate_left; · intro w'; go_simp; with_reducible rfl
      rotate_left; · simp only [Act.put, pA, pB, pC, pD, pE]; rfl
      refine pure_ (i := 37) (N := some 85) (v := ?_) (a' := ?_) (bA 48 150323855359) rfl rfl (any_of HT_.out (by kernel_rfl)) (fun _ _ _ h => h) (Or.inl ⟨by rfl, ?_⟩) ?_ ?_
      rotate_left; · intro w'; go_simp; with_reducible rfl
      rotate_left; · simp only [Act.put, pA, pB, pC, pD, pE]; rfl
      refine take_ (i := 32) (N := some 80) (v := ?_) (a' := ?_) (bA 48 154618822655) rfl rfl (take_ofW HT_.out HW_.out (by kernel_rfl)) (fun _ _ _ h => h) (Or.inl ⟨by rfl, ?_⟩) hHeld ?_ ?_
      rotate_left
      · rintro w' ⟨s0, s1, s2, s3, s4, s5, s6, s7, s8⟩
        go_simp; with_reducible rfl
      rotate_left; · simp only [Act.put, pA, pB, pC, pD, pE]; rfl
      refine pure_ (i := 34) (N := some 82) (v := ?_) (a' := ?_) (bA 48 171798691839) rfl rfl (any_of HT_.out (by kernel_rfl)) (fun _ _ _ h => h) (Or.inl ⟨by rfl, ?_⟩) ?_ ?_
      rotate_left; · intro w'; go_simp; with_reducible rfl
      rotate_left; · simp only [Act.put, pA, pB, pC, pD, pE]; rfl
      refine take_ (i := 35) (N := some 83) (v := ?_) (a' := ?_) (bA 48 206158430207) rfl rfl (take_ofW HT_.out HW_.out (by kernel_rfl)) (fun _ _ _ h => h) (Or.inl ⟨by rfl, ?_⟩) hHeld ?_ ?_
      rotate_left
      · rintro w' ⟨s0, s1, s2, s3, s4, s5, s6, s7, s8⟩
        go_simp; with_reducible rfl
      rotate_left; · simp only [Act.put, pA, pB, pC, pD, pE]; rfl
      refine one_ (i := 36) (N := some 84) (bA 48 274877906943) rfl rfl (one_of HT_.out (by kernel_rfl)) (by decide) (fun K hK => ?_)
      refine goes_ Try.func22 (by kernel_rfl) rfl #[.pointer (some ⟨gc, 0, none⟩), .int .i64 (po : Int)] (by rfl) rfl rfl (by simp only [List.map_toArray, List.map_cons, List.map_nil]; rfl) ?_
      with_reducible refine ((HNO.out wb (Below.drewL hb_wb))).mono ?_
      rintro e wb ⟨rfl, rfl⟩
      refine ⟨_, rfl, ?_⟩
      refine hK.out _ _ ⟨(keep_at hb_wb (show (wr.drew).cell? _ = _ from q0)), (keep_at hb_wb (show (wr.drew).cell? _ = _ from q1)), (keep_at hb_wb (show (wr.drew).cell? _ = _ from q2)), (keep_at hb_wb (show (wr.drew).cell? _ = _ from q3)), (keep_at hb_wb (show (wr.drew).cell? _ = _ from q4)), (keep_at hb_wb (show (wr.drew).cell? _ = _ from q5)), (keep_at hb_wb (show (wr.drew).cell? _ = _ from q6)), (keep_at hb_wb (show (wr.drew).cell? _ = _ from qp)), (keep_at hb_wb (show (wr.drew).cell? _ = _ from qq))⟩ (fun hHeld => ?_)
      clear hK K
      refine norm_ (a' := ?_) ?_ ?_
      rotate_left
      · show Act.put _ (some 84) _ = _
        simp only [Act.put, pA, pB, pC, pD, pE]; rfl
      refine pure_ (i := 38) (N := some 86) (v := ?_) (a' := ?_) (bA 48 549755813887) rfl rfl (any_of HT_.out (by kernel_rfl)) (fun _ _ _ h => h) (Or.inl ⟨by rfl, ?_⟩) ?_ ?_
      rotate_left; · intro w'; go_simp; with_reducible rfl
      rotate_left; · simp only [Act.put, pA, pB, pC, pD, pE]; rfl
      refine pure_ (i := 39) (N := some 87) (v := ?_) (a' := ?_) (bA 48 1099511627775) rfl rfl (any_of HT_.out (by kernel_rfl)) (fun _ _ _ h => h) (Or.inl ⟨by rfl, ?_⟩) ?_ ?_
      rotate_left; · intro w'; go_simp; with_reducible rfl
      rotate_left; · simp only [Act.put, pA, pB, pC, pD, pE]; rfl
      refine pure_ (i := 40) (N := some 88) (v := ?_) (a' := ?_) (bA 48 2199023255551) rfl rfl (any_of HT_.out (by kernel_rfl)) (fun _ _ _ h => h) (Or.inl ⟨by rfl, ?_⟩) ?_ ?_
      rotate_left; · intro w'; go_simp; with_reducible rfl
      rotate_left; · simp only [Act.put, pA, pB, pC, pD, pE]; rfl
      refine pure_ (i := 41) (N := some 89) (v := ?_) (a' := ?_) (bA 48 4398046511103) rfl rfl (any_of HT_.out (by kernel_rfl)) (fun _ _ _ h => h) (Or.inl ⟨by rfl, ?_⟩) ?_ ?_
      rotate_left; · intro w'; go_simp; with_reducible rfl
      rotate_left; · simp only [Act.put, pA, pB, pC, pD, pE]; rfl
      refine pure_ (i := 42) (N := some 90) (v := ?_) (a' := ?_) (bA 48 8796093022207) rfl rfl (any_of HT_.out (by kernel_rfl)) (fun _ _ _ h => h) (Or.inl ⟨by rfl, ?_⟩) ?_ ?_
      rotate_left; · intro w'; go_simp; with_reducible rfl
      rotate_left; · simp only [Act.put, pA, pB, pC, pD, pE]; rfl
      refine pure_ (i := 44) (N := some 92) (v := ?_) (a' := ?_) (bA 48 26388279066623) rfl rfl (any_of HT_.out (by kernel_rfl)) (fun _ _ _ h => h) (Or.inl ⟨by rfl, ?_⟩) ?_ ?_
      rotate_left; · intro w'; go_simp; with_reducible rfl
      rotate_left; · simp only [Act.put, pA, pB, pC, pD, pE]; rfl
      refine one_ (i := 43) (N := some 91) (bA 48 35184372088831) rfl rfl (one_of HT_.out (by kernel_rfl)) (by decide) (fun K hK => ?_)
      refine goes_ Try.func17 (by kernel_rfl) rfl #[.pointer (some ⟨gc, 0, none⟩), .int .i64 (v : Int)] (by rfl) rfl rfl (by simp only [List.map_toArray, List.map_cons, List.map_nil]; rfl) ?_
      with_reducible refine ((HLB.out wb (Below.drewL hb_wb))).mono ?_
      rintro e wd ⟨vl, rfl, ho, hb_wd⟩
      refine ⟨_, rfl, ?_⟩
      obtain ⟨Al2, cl2, rfl⟩ := Lw.own_slice ho
      refine hK.out _ _ ⟨(keep_at hb_wd (keep_at hb_wb (show (wr.drew).cell? _ = _ from q0))), (keep_at hb_wd (keep_at hb_wb (show (wr.drew).cell? _ = _ from q1))), (keep_at hb_wd (keep_at hb_wb (show (wr.drew).cell? _ = _ from q2))), (keep_at hb_wd (keep_at hb_wb (show (wr.drew).cell? _ = _ from q3))), (keep_at hb_wd (keep_at hb_wb (show (wr.drew).cell? _ = _ from q4))), (keep_at hb_wd (keep_at hb_wb (show (wr.drew).cell? _ = _ from q5))), (keep_at hb_wd (keep_at hb_wb (show (wr.drew).cell? _ = _ from q6))), (keep_at hb_wd (keep_at hb_wb (show (wr.drew).cell? _ = _ from qp))), (keep_at hb_wd (keep_at hb_wb (show (wr.drew).cell? _ = _ from qq)))⟩ (fun hHeld => ?_)
      clear hK K
      refine norm_ (a' := ?_) ?_ ?_
      rotate_left
      · show Act.put _ (some 91) _ = _
        simp only [Act.put, pA, pB, pC, pD, pE]; rfl
      refine one_ (i := 45) (N := some 93) (bA 48 70368744177663) rfl rfl (one_of HT_.out (by kernel_rfl)) (by decide) (fun K hK => ?_)
      refine goes_ Try.func36 (by kernel_rfl) rfl #[.slice Al2 Lv.length cl2, .slice Al Lv.length cl] (by rfl) rfl rfl (by simp only [List.map_toArray, List.map_cons, List.map_nil]; rfl) ?_
      with_reducible refine ((HSS.out wd Al2 cl2 (RdA.of_own (l := Lv) ho).1 ((Below.drewL hb_wb).trans (hb_wd.mono (Below.drewL hb_wb).size)))).mono ?_
      rintro e we ⟨rfl, hb_we⟩
      refine ⟨_, rfl, ?_⟩
      refine hK.out _ _ ⟨(keep_at hb_we (keep_at hb_wd (keep_at hb_wb (show (wr.drew).cell? _ = _ from q0)))), (keep_at hb_we (keep_at hb_wd (keep_at hb_wb (show (wr.drew).cell? _ = _ from q1)))), (keep_at hb_we (keep_at hb_wd (keep_at hb_wb (show (wr.drew).cell? _ = _ from q2)))), (keep_at hb_we (keep_at hb_wd (keep_at hb_wb (show (wr.drew).cell? _ = _ from q3)))), (keep_at hb_we (keep_at hb_wd (keep_at hb_wb (show (wr.drew).cell? _ = _ from q4)))), (keep_at hb_we (keep_at hb_wd (keep_at hb_wb (show (wr.drew).cell? _ = _ from q5)))), (keep_at hb_we (keep_at hb_wd (keep_at hb_wb (show (wr.drew).cell? _ = _ from q6)))), (keep_at hb_we (keep_at hb_wd (keep_at hb_wb (show (wr.drew).cell? _ = _ from qp)))), (keep_at hb_we (keep_at hb_wd (keep_at hb_wb (show (wr.drew).cell? _ = _ from qq))))⟩ (fun hHeld => ?_)
      clear hK K
      refine norm_ (a' := ?_) ?_ ?_
      rotate_left
      · show Act.put _ (some 93) _ = _
        simp only [Act.put, pA, pB, pC, pD, pE]; rfl
      refine pure_ (i := 46) (N := some 94) (v := ?_) (a' := ?_) (bA 48 140737488355327) rfl rfl (any_of HT_.out (by kernel_rfl)) (fun _ _ _ h => h) (Or.inl ⟨by rfl, ?_⟩) ?_ ?_
      rotate_left; · intro w'; go_simp; with_reducible rfl
      rotate_left; · simp only [Act.put, pA, pB, pC, pD, pE]; rfl
      refine pure_ (i := 47) (N := some 95) (v := ?_) (a' := ?_) (bA 48 281474976710655) rfl rfl (any_of HT_.out (by kernel_rfl)) (fun _ _ _ h => h) (Or.inl ⟨by rfl, ?_⟩) ?_ ?_
      rotate_left; · intro w'; go_simp; with_reducible rfl
      rotate_left; · simp only [Act.put, pA, pB, pC, pD, pE]; rfl
      refine done_ (done_of HT_.out (by kernel_rfl)) ?_
      clear hHeld HT_ HW_
      refine gen_then (fun W => Below wr.heap.size wr W) ?_ ?_
      · have h1 := Below.drewL hb_wb
        have h2 := h1.trans (hb_wd.mono h1.size)
        exact h2.trans (hb_we.mono h2.size)
      clear q0 q1 q2 q3 q4 q5 q6 qp qq HPA HPO HLO HRL HNO HLB HSS
      intro w5 hb5
      have HB5 := Lib.hid hb5
      clear hb5
      go_wp2_with fail
      go_loopg [9] n (fun kq v9 w' => ∃ x : Nat, v9 = .int .i64 (x : Int) ∧ Hid (x + kq = n ∧ Below wr.heap.size wr w'))
      case atStart => exact ⟨0, rfl, Lib.hid ⟨by omega, HB5.out⟩⟩
      case round =>
        clear HB5
        obtain ⟨x, rfl, hI⟩ := hrel
        obtain ⟨hxk, hbx⟩ := hI.out
        clear hI
        by_cases hx : x < n
        · obtain ⟨k2, rfl⟩ : ∃ k2, gk = k2 + 1 := ⟨gk - 1, by omega⟩
          have q6 := (HAT.out.below hbx HAT.out.lt).cell 6 rfl
          have hbw := HB.out.trans (hbx.mono HB.out.size)
          have qr := keep_at hbw HC.out.2.2.1
          have qx := keep_at hbw (HC.out.2.2.2 x hx)
          obtain ⟨b1, hb1⟩ : ∃ b1, rB (EA arcs) v x = b1 := ⟨_, rfl⟩
          rw [hb1] at qx
          have HRY := Lib.hid (fun (W : World) (hW : Below wr.heap.size wr W) => HRE.out x b1 hx hb1 W (hbx.trans (hW.mono hbx.size)))
          have HBX := Lib.hid hbx
          have x0 : (0 : Int) ≤ (x : Int) := by omega
          have x1 : (x : Int) < (n : Int) := by omega
          clear hbw hb1 hbx hx
          go_upto_region 15 with (fail)
          refine start_ (n := 13) (S := fun w' => w'.cell? ⟨gx, 6, none⟩ = some (.slice (some ⟨br, 0, none⟩) n cr) ∧ w'.cell? ⟨br, v, none⟩ = some (.slice (some ⟨BR, 0, none⟩) n cB) ∧ w'.cell? ⟨BR, x, none⟩ = some (.bool b1)) (ds := []) (bA 13 0) (by kernel_rfl) rfl rfl ⟨q6, qr, qx⟩ (fun hHeld => ?_)
          refine with_tabW tb16_15.tab15 tb16_15.bits15 (fun HT_ HW_ => ?_)
          refine pure_ (i := 0) (N := some 101) (v := ?_) (a' := ?_) (bA 13 1) rfl rfl (any_of HT_.out (by kernel_rfl)) (fun _ _ _ h => h) (Or.inl ⟨by rfl, ?_⟩) ?_ ?_
          rotate_left; · intro w'; go_simp; with_reducible rfl
          rotate_left; · simp only [Act.put, pA, pB, pC, pD, pE]; rfl
          refine pure_ (i := 1) (N := some 102) (v := ?_) (a' := ?_) (bA 13 3) rfl rfl (any_of HT_.out (by kernel_rfl)) (fun _ _ _ h => h) (Or.inl ⟨by rfl, ?_⟩) ?_ ?_
          rotate_left; · intro w'; go_simp; with_reducible rfl
          rotate_left; · simp only [Act.put, pA, pB, pC, pD, pE]; rfl
          refine pure_ (i := 2) (N := some 103) (v := ?_) (a' := ?_) (bA 13 7) rfl rfl (any_of HT_.out (by kernel_rfl)) (fun _ _ _ h => h) (Or.inl ⟨by rfl, ?_⟩) ?_ ?_
          rotate_left; · intro w'; go_simp; with_reducible rfl
          rotate_left; · simp only [Act.put, pA, pB, pC, pD, pE]; rfl
          refine pure_ (i := 4) (N := some 105) (v := ?_) (a' := ?_) (bA 13 23) rfl rfl (any_of HT_.out (by kernel_rfl)) (fun _ _ _ h => h) (Or.inl ⟨by rfl, ?_⟩) ?_ ?_
          rotate_left; · intro w'; go_simp; with_reducible rfl
          rotate_left; · simp only [Act.put, pA, pB, pC, pD, pE]; rfl
          refine pure_ (i := 6) (N := some 107) (v := ?_) (a' := ?_) (bA 13 87) rfl rfl (any_of HT_.out (by kernel_rfl)) (fun _ _ _ h => h) (Or.inl ⟨by rfl, ?_⟩) ?_ ?_
          rotate_left; · intro w'; go_simp; with_reducible rfl
          rotate_left; · simp only [Act.put, pA, pB, pC, pD, pE]; rfl
          refine pure_ (i := 9) (N := some 110) (v := ?_) (a' := ?_) (bA 13 599) rfl rfl (any_of HT_.out (by kernel_rfl)) (fun _ _ _ h => h) (Or.inl ⟨by rfl, ?_⟩) ?_ ?_
          rotate_left; · intro w'; go_simp; with_reducible rfl
          rotate_left; · simp only [Act.put, pA, pB, pC, pD, pE]; rfl
          refine take_ (i := 5) (N := some 106) (v := ?_) (a' := ?_) (bA 13 631) rfl rfl (take_ofW HT_.out HW_.out (by kernel_rfl)) (fun _ _ _ h => h) (Or.inl ⟨by rfl, ?_⟩) hHeld ?_ ?_
          rotate_left
          · rintro w' ⟨s0, s1, s2⟩
            go_simp; with_reducible rfl
          rotate_left; · simp only [Act.put, pA, pB, pC, pD, pE]; rfl
          refine pure_ (i := 7) (N := some 108) (v := ?_) (a' := ?_) (bA 13 759) rfl rfl (any_of HT_.out (by kernel_rfl)) (fun _ _ _ h => h) (Or.inl ⟨by rfl, ?_⟩) ?_ ?_
          rotate_left; · intro w'; go_simp; with_reducible rfl
          rotate_left; · simp only [Act.put, pA, pB, pC, pD, pE]; rfl
          refine take_ (i := 8) (N := some 109) (v := ?_) (a' := ?_) (bA 13 1015) rfl rfl (take_ofW HT_.out HW_.out (by kernel_rfl)) (fun _ _ _ h => h) (Or.inl ⟨by rfl, ?_⟩) hHeld ?_ ?_
          rotate_left
          · rintro w' ⟨s0, s1, s2⟩
            go_simp; with_reducible rfl
          rotate_left; · simp only [Act.put, pA, pB, pC, pD, pE]; rfl
          refine pure_ (i := 10) (N := some 111) (v := ?_) (a' := ?_) (bA 13 2039) rfl rfl (any_of HT_.out (by kernel_rfl)) (fun _ _ _ h => h) (Or.inl ⟨by rfl, ?_⟩) ?_ ?_
          rotate_left; · intro w'; go_simp; with_reducible rfl
          rotate_left; · simp only [Act.put, pA, pB, pC, pD, pE]; rfl
          refine take_ (i := 11) (N := some 112) (v := ?_) (a' := ?_) (bA 13 4087) rfl rfl (take_ofW HT_.out HW_.out (by kernel_rfl)) (fun _ _ _ h => h) (Or.inl ⟨by rfl, ?_⟩) hHeld ?_ ?_
          rotate_left
          · rintro w' ⟨s0, s1, s2⟩
            go_simp; with_reducible rfl
          rotate_left; · simp only [Act.put, pA, pB, pC, pD, pE]; rfl
          refine one_ (i := 3) (N := some 104) (bA 13 4095) rfl rfl (one_of HT_.out (by kernel_rfl)) (by decide) (fun K hK => ?_)
          refine goes_ Try.func14 (by kernel_rfl) rfl #[.pointer (some ⟨gc, 0, none⟩), .int .i64 (v : Int), .int .i64 (x : Int)] (by rfl) rfl rfl (by simp only [List.map_toArray, List.map_cons, List.map_nil]; rfl) ?_
          with_reducible refine ((HRY.out wr.drew (Below.refl _ _).drew)).mono ?_
          rintro e wa ⟨rfl, hb_wa⟩
          refine ⟨_, rfl, ?_⟩
          refine hK.out _ _ ⟨(keep_at hb_wa (show (wr.drew).cell? _ = _ from q6)), (keep_at hb_wa (show (wr.drew).cell? _ = _ from qr)), (keep_at hb_wa (show (wr.drew).cell? _ = _ from qx))⟩ (fun hHeld => ?_)
          clear hK K
          refine norm_ (a' := ?_) ?_ ?_
          rotate_left
          · show Act.put _ (some 104) _ = _
            simp only [Act.put, pA, pB, pC, pD, pE]; rfl
          refine pure_ (i := 12) (N := some 113) (v := ?_) (a' := ?_) (bA 13 8191) rfl rfl (any_of HT_.out (by kernel_rfl)) (fun _ _ _ h => h) (Or.inl ⟨by rfl, ?_⟩) ?_ ?_
          rotate_left; · intro w'; go_simp; with_reducible rfl
          rotate_left; · simp only [Act.put, pA, pB, pC, pD, pE]; rfl
          refine done_ (done_of HT_.out (by kernel_rfl)) ?_
          clear hHeld HT_ HW_
          refine gen_then (fun W => Below wr.heap.size wr W) ?_ ?_
          · exact Below.drewL hb_wa
          clear q6 qr qx HRY
          intro w6 hb6
          have HB6 := Lib.hid (HBX.out.trans (hb6.mono HBX.out.size))
          clear hb6 HBX
          cases b1 with
          | false =>
            go_wp2
            go_roundg k2
            case measure => omega
            case rel => exact ⟨x + 1, by go_num, Lib.hid ⟨by omega, HB6.out⟩⟩
          | true =>
            go_wp2
            go_roundg k2
            case measure => omega
            case rel => exact ⟨x + 1, by go_num, Lib.hid ⟨by omega, HB6.out⟩⟩
        · obtain rfl : n = x := by omega
          go_wp2
          go_roundg k1
          case measure => omega
          case rel => exact ⟨v + 1, by go_num, by rw [HNX.out, Int.natCast_add], Lib.hid ⟨by omega, HAT.out.below hbx HAT.out.lt, HB.out.trans (hbx.mono HB.out.size)⟩⟩
    · obtain rfl : n = v := by omega
      clear hv hvk
      have hK5 := HX.out.1.below hb
      have hszn : sz L n ≤ 100000 := by
        have := sz_le (L := L) (n := n) (fun v hv => hK5.runs hv) n (Nat.le_refl _)
        omega
      have HB := Lib.hid hb
      obtain ⟨s0, hs0⟩ : ∃ s0, sz L n = s0 := ⟨_, rfl⟩
      rw [hs0] at hszn ⊢
      have HS0 := Lib.hid hs0
      clear hat hb hK5 hs0
      go_wp2_with fail
      refine gen_loopw (fun W => At W wr.heap.size (ints (oddL n)) 3 ∧ Below w.heap.size w W) ⟨At.made rfl rfl, HB.out.alloc HB.out.size _⟩ ?_
      obtain ⟨go, hgo⟩ : ∃ go, wr.heap.size = go := ⟨_, rfl⟩
      rw [hgo]
      clear hgo HB
      rintro w6 ⟨h6, hb6⟩
      have H6 := Lib.hid (And.intro h6 hb6)
      clear h6 hb6
      go_loopg [117] 4 (fun kq v117 w' => ∃ i : Nat, v117 = .int .i64 (i : Int) ∧ Hid (i + kq = 4 ∧ Below w6.heap.size w6 w'))
      case atStart => exact ⟨0, rfl, Lib.hid ⟨by omega, Below.refl _ _⟩⟩
      case round =>
        obtain ⟨i, rfl, hI⟩ := hrel
        obtain ⟨hik, hb7⟩ := hI.out
        clear hI
        by_cases hi : i < 4
        · obtain ⟨k1, rfl⟩ : ∃ k1, gk = k1 + 1 := ⟨gk - 1, by omega⟩
          obtain ⟨x, hx, hne⟩ := odd_at (n := n) hi (by omega)
          have hbw := H6.out.2.trans (hb7.mono H6.out.2.size)
          have qx := (H6.out.1.below hb7 H6.out.1.lt).cell i (Mem.ints_at _ hx)
          have i0 : (0 : Int) ≤ (i : Int) := by omega
          have i1 : (i : Int) < 4 := by omega
          have hK := fun (W : World) (hW : Below wr.heap.size wr W) => (HX.out.1.below (hbw.trans (hW.mono hbw.size))).c.c
          have HPA := Lib.hid (fun W hW => par_no (hK W hW) x (by omega) hne)
          have HPO := Lib.hid (fun W hW => post_no (hK W hW) x (by omega) hne)
          have HLO := Lib.hid (fun W hW => low_no (hK W hW) x (by omega) hne)
          have HLB := Lib.hid (fun W hW => label_no (hK W hW) x (by omega) hne)
          have HR1 := Lib.hid (fun W hW => reaches_no1 (hK W hW) x 0 (by omega) hne)
          have HR2 := Lib.hid (fun (W : World) (hW : Below wr.heap.size wr W) => (show Calls Try.prog 14 #[.pointer (some ⟨gc, 0, none⟩), .int .i64 0, .int .i64 x] W fun e w' => e = .returned (.bool false) ∧ Below W.heap.size W w' from by
            by_cases h0 : 0 < n
            · exact reaches_no2 (hK W hW) 0 x (by omega) h0 hne
            · exact reaches_no1 (hK W hW) 0 x (by omega) (by omega)))
          have HR3 := Lib.hid (fun W hW => reaches_no1 (hK W hW) x x (by omega) hne)
          have HB7 := Lib.hid hb7
          clear hx hne hbw hK hi hb7
          go_wp2_with fail
          refine (HPA.out _ (Below.refl _ _)).mono ?_
          clear HPA
          rintro e wx ⟨rfl, rfl⟩
          go_wp2_with fail
          refine (HPO.out _ (Below.refl _ _)).mono ?_
          clear HPO
          rintro e wx ⟨rfl, rfl⟩
          go_wp2_with fail
          refine (HLO.out _ (Below.refl _ _)).mono ?_
          clear HLO
          rintro e wx ⟨rfl, rfl⟩
          go_wp2_with fail
          refine (HLB.out _ (Below.refl _ _)).mono ?_
          clear HLB
          rintro e wx ⟨rfl, rfl⟩
          go_wp2_with fail
          refine (HR1.out _ (Below.refl _ _)).mono ?_
          clear HR1
          rintro e w8 ⟨rfl, hb8⟩
          have HB8 := Lib.hid hb8
          clear hb8
          go_wp2_with fail
          refine (HR2.out _ HB8.out).mono ?_
          clear HR2
          rintro e w9 ⟨rfl, hb9⟩
          have HB9 := Lib.hid (HB8.out.trans (hb9.mono HB8.out.size))
          clear hb9
          go_wp2_with fail
          refine (HR3.out _ HB9.out).mono ?_
          clear HR3
          rintro e w10 ⟨rfl, hb10⟩
          have HB10 := Lib.hid (HB9.out.trans (hb10.mono HB9.out.size))
          clear hb10
          go_wp2
          go_roundg k1
          case measure => omega
          case rel => exact ⟨i + 1, by go_num, Lib.hid ⟨by omega, HB7.out.trans (HB10.out.mono HB7.out.size)⟩⟩
        · obtain rfl : i = 4 := by omega
          have hbw := H6.out.2.trans (hb7.mono H6.out.2.size)
          have hsz := (HX.out.1.below hbw).size_
          rw [show (((List.range n).map L).map List.length).sum = s0 from HS0.out] at hsz
          have HSZ := Lib.hid hsz
          have HBW := Lib.hid hbw
          clear hbw hsz hb7 hi hik
          go_wp2_with fail
          refine HSZ.out.mono ?_
          rintro e w7 ⟨rfl, hb7⟩
          have HB7 := Lib.hid hb7
          clear hb7 HSZ
          go_wp2_with fail
          go_ret
          exact ⟨by simp, HBW.out.trans (HB7.out.mono HBW.out.size)⟩
end Go.Proofs.Ytdohfjidnbhfnaa.Lc
