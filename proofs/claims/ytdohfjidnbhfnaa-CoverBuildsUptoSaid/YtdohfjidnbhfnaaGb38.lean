/- The laws of cover: cut, awake. -/
import Derived.Test.YtdohfjidnbhfnaaGb36
import Derived.Test.YtdohfjidnbhfnaaGb37
namespace Go.Proofs.Ytdohfjidnbhfnaa.Lc
open Go Go.RowKit Go.Proofs.Ytdohfjidnbhfnaa.Mem Go.Proofs.Ytdohfjidnbhfnaa.Sl Go.Proofs.Ytdohfjidnbhfnaa.Scc Go.Proofs.Ytdohfjidnbhfnaa.Tj Go.Proofs.Ytdohfjidnbhfnaa.Lw Go.Proofs.Ytdohfjidnbhfnaa.Cv Go.Proofs.Ytdohfjidnbhfnaa.Rb Go.Proofs.YtdohfjidnbhfnaaW.PrintWords Go.Proofs.YtdohfjidnbhfnaaW.PrintLast
attribute [local go_sem ↓] Go.wp_at_zero Go.wp_at_succ
set_option linter.unusedSimpArgs false
set_option linter.unusedVariables false

set_option maxHeartbeats 4000000 in
theorem cut_calls (w : World) (a1 : Value) (n k : Nat) (xs : List Value) (h1 : ArgV w a1 n 2 xs) (hk : k ≤ 1000) :
    Calls Try.prog 10 #[a1, .int .i64 (k : Int)] w fun e w' => ∃ v, e = .returned v ∧ One w 38 2 v (min n k) (xs.take (min n k * 2)) w' := by
  obtain ⟨q1, hq1⟩ : ∃ q, min n k = q := ⟨_, rfl⟩
  have hsh : ∃ A c, a1 = .slice A n c := by
    obtain ⟨_, _, ⟨rfl, rfl⟩ | ⟨ad, c, rfl, _⟩⟩ := h1
    · exact ⟨none, 0, rfl⟩
    · exact ⟨some ad, c, rfl⟩
  obtain ⟨A1, c1, rfl⟩ := hsh
  obtain ⟨d1, hc1⟩ := h1.take (m := q1) (by omega)
  have e1 : min (n : Int) (k : Int) = (q1 : Int) := by omega
  have g1 : (0 : Int) ≤ (q1 : Int) := by omega
  have g3 : (q1 : Int) ≤ (c1 : Int) := by omega
  have hq : q1 ≤ 1000 := by omega
  obtain ⟨i2, hi2, hz2, hs2, hb2⟩ := info_parts Lw.info_arc
  rw [hq1]
  have HD := Lib.hid d1
  clear h1 d1 hq1 hc1
  go_enter Try.func10, Try.ntmps10
  go_wp2_with ((at_builtin; refine wpList_append_any rfl (.tmp 5) (.tmp 11) 22 rfl w.heap.size 38 i2 (.agg #[.int .i64 0, .int .i64 0]) 2 16 Try.underlying22 hi2 hz2 hs2 hb2 rfl (by omega) _ 0 [] rfl (own_made rfl (Nat.le_refl _)) _ rfl q1 (xs.take (q1 * 2)) (HD.out.below ((Below.refl _ _).alloc (Nat.le_refl _) (.cells #[] 38))) (by unfold maxLen; omega) (by omega) (by simp) ?_; intro v5 w5 ho hg hn; have hone := (One.make (Below.refl _ _) (own_made (T := 38) (size := 2) rfl (Nat.le_refl _)) ((Below.refl w.heap.size w).alloc (Nat.le_refl _) (.cells #[] 38))).grow ho hg; have HO := Lib.hid hone; clear ho hg hn hone))
  go_ret
  refine ⟨_, rfl, ?_⟩
  have := HO.out
  rw [Nat.zero_add] at this
  exact this

theorem cut2_calls (w : World) (a1 : Value) (arcs : List (Int × Int)) (k : Nat) (h1 : ArgV w a1 arcs.length 2 (arcs2 arcs)) (hk : k ≤ 1000) :
    Calls Try.prog 10 #[a1, .int .i64 (k : Int)] w fun e w' => ∃ v, e = .returned v ∧ One w 38 2 v (arcs.take k).length (arcs2 (arcs.take k)) w' := by
  refine (cut_calls w a1 arcs.length k (arcs2 arcs) h1 hk).mono ?_
  rintro e w' ⟨v, he, hT⟩
  refine ⟨v, he, ?_⟩
  have e2 : (arcs2 arcs).take (min arcs.length k * 2) = arcs2 (arcs.take k) := by
    rw [arcs2_take]
    rcases Nat.le_total arcs.length k with h | h
    · rw [Nat.min_eq_left h, List.take_of_length_le (Nat.le_refl _), List.take_of_length_le h]
    · rw [Nat.min_eq_right h]
  rw [e2] at hT
  rw [List.length_take, Nat.min_comm]
  exact hT

/-! The fixed fact. -/
def aw : List (Int × Int) := [(0, 2), (1, 2), (2, 3), (1, 4)]
def awS (v : Nat) : List Nat := [[0, 2, 3], [1, 2, 3, 4], [2, 3], [3], [4]].getD v []
def awT (v : Nat) : List (Int × Int) := [[(1, 3)], [(1, 2), (4, 5)], [(1, 2)], [(1, 1)], [(4, 4)]].getD v []
theorem aw_up : Up 5 aw := by
  intro p hp
  revert p
  decide
theorem aw_to : ∀ v, v < 5 → ∀ a ∈ awS v, ∀ p ∈ aw, p.1 = (a : Int) → p.2.toNat ∈ awS v := by decide
theorem aw_rch {v x : Nat} (hv : v < 5) : Rch (EA aw) v x ↔ x ∈ awS v := by
  constructor
  · intro h
    induction h with
    | refl => revert hv v; decide
    | step _ he ih => exact aw_to v hv _ ih _ he rfl
  · have e02 : EA aw 0 2 := by unfold EA; decide
    have e12 : EA aw 1 2 := by unfold EA; decide
    have e23 : EA aw 2 3 := by unfold EA; decide
    have e14 : EA aw 1 4 := by unfold EA; decide
    intro h
    have hc : v = 0 ∨ v = 1 ∨ v = 2 ∨ v = 3 ∨ v = 4 := by omega
    rcases hc with rfl | rfl | rfl | rfl | rfl <;> simp [awS] at h
    · rcases h with rfl | rfl | rfl
      · exact .refl _
      · exact .one e02
      · exact (Rch.one e02).trans (.one e23)
    · rcases h with rfl | rfl | rfl | rfl
      · exact .refl _
      · exact .one e12
      · exact (Rch.one e12).trans (.one e23)
      · exact .one e14
    · rcases h with rfl | rfl
      · exact .refl _
      · exact .one e23
    · subst h; exact .refl _
    · subst h; exact .refl _
theorem aw_post : ∀ v, v < 5 → postN (parsOf 5 aw) v = [3, 5, 2, 1, 4].getD v 0 := by decide
theorem aw_lab {w0 w : World} {gc gn ga : Nat} {nd : List Nd} {al : List Int} {L : Nat → List (Int × Int)} {rk : Nat → Nat} (h : Kn w0 w gc 5 aw aw gn ga nd al L rk) {v : Nat} (hv : v < 5) : L v = awT v := by
  have h1 := h.labOk hv
  have hcan : Sp.Canon 0 (awT v) := by
    have hc : v = 0 ∨ v = 1 ∨ v = 2 ∨ v = 3 ∨ v = 4 := by omega
    rcases hc with rfl | rfl | rfl | rfl | rfl <;> simp [awT, Sp.Canon]
  refine Sp.canon_ext h1.1.1 hcan fun y => ?_
  rw [h1.2 y]
  have hx : (∃ x, x < 5 ∧ Rch (EA aw) v x ∧ y = (postN (parsOf 5 aw) x : Int)) ↔ ∃ x ∈ awS v, y = ((([3, 5, 2, 1, 4] : List Nat).getD x 0 : Nat) : Int) := by
    constructor
    · rintro ⟨x, hx, hr, rfl⟩
      exact ⟨x, (aw_rch hv).1 hr, by rw [aw_post x hx]⟩
    · rintro ⟨x, hx, rfl⟩
      have hx5 : x < 5 := by
        have : ∀ v, v < 5 → ∀ x ∈ awS v, x < 5 := by decide
        exact this v hv x hx
      exact ⟨x, hx5, (aw_rch hv).2 hx, by rw [aw_post x hx5]⟩
  rw [hx]
  have hc : v = 0 ∨ v = 1 ∨ v = 2 ∨ v = 3 ∨ v = 4 := by omega
  rcases hc with rfl | rfl | rfl | rfl | rfl <;> simp [awS, awT, Sp.Mem] <;> omega

set_option maxHeartbeats 4000000 in
theorem awake_calls (w : World) : Calls Try.prog 9 #[] w fun e w' => e = .returned (.bool true) ∧ Below w.heap.size w w' := by
  have hB : Calls Try.prog 12 #[.int .i64 5, .slice (some ⟨w.heap.size, 0, none⟩) 4 4] (w.alloc (.cells #[.int .i64 0, .int .i64 2, .int .i64 1, .int .i64 2, .int .i64 2, .int .i64 3, .int .i64 1, .int .i64 4] 38)) _ :=
    build_kn (w.alloc (.cells #[.int .i64 0, .int .i64 2, .int .i64 1, .int .i64 2, .int .i64 2, .int .i64 3, .int .i64 1, .int .i64 4] 38)) 5 (some ⟨w.heap.size, 0, none⟩) 4 aw (RdA.lit w aw _) (by omega) (by decide) aw_up.acy
  have HB := Lib.hid hB
  clear hB
  go_enter Try.func9, Try.ntmps9
  go_wp2_with fail
  refine HB.out.mono ?_
  clear HB
  rintro e w1 ⟨gc, gn, ga, nd, al, L, rk, comp, mm, rfl, hK, _, _, hb⟩
  have HK := Lib.hid hK
  have HB := Lib.hid (((Below.refl w.heap.size w).alloc (Nat.le_refl _) _).trans (hb.mono (by simp)))
  clear hb hK
  go_wp2_with fail
  refine HK.out.len_.mono ?_
  rintro e w1 ⟨rfl, rfl⟩
  go_wp2_with fail
  have h3 : Calls Try.prog 20 #[.pointer (some ⟨gc, 0, none⟩), .int .i64 3] w1 fun e w' => e = .returned (.int .i64 1) ∧ w' = w1 := by
    have := HK.out.post_ (v := 3) (by omega)
    rw [aw_post 3 (by omega)] at this
    exact this
  have h1 : Calls Try.prog 20 #[.pointer (some ⟨gc, 0, none⟩), .int .i64 1] w1 fun e w' => e = .returned (.int .i64 5) ∧ w' = w1 := by
    have := HK.out.post_ (v := 1) (by omega)
    rw [aw_post 1 (by omega)] at this
    exact this
  have H1 := Lib.hid h1
  clear h1
  refine h3.mono ?_
  clear h3
  rintro e w1 ⟨rfl, rfl⟩
  go_wp2_with fail
  refine H1.out.mono ?_
  clear H1
  rintro e w1 ⟨rfl, rfl⟩
  have hs : Calls Try.prog 23 #[.pointer (some ⟨gc, 0, none⟩)] w1 fun e w' => e = .returned (.int .i64 6) ∧ Below w1.heap.size w1 w' := by
    have := HK.out.size_
    have hsum : (((List.range 5).map L).map List.length).sum = 6 := by
      show (L 0).length + ((L 1).length + ((L 2).length + ((L 3).length + ((L 4).length + 0)))) = 6
      rw [aw_lab HK.out (v := 0) (by omega), aw_lab HK.out (v := 1) (by omega), aw_lab HK.out (v := 2) (by omega), aw_lab HK.out (v := 3) (by omega), aw_lab HK.out (v := 4) (by omega)]
      rfl
    rw [hsum] at this
    exact this
  have HS := Lib.hid hs
  clear hs
  go_wp2_with fail
  refine HS.out.mono ?_
  clear HS
  rintro e w2 ⟨rfl, hb⟩
  have h13 : Calls Try.prog 14 #[.pointer (some ⟨gc, 0, none⟩), .int .i64 1, .int .i64 3] w2 fun e w' => e = .returned (.bool true) ∧ Below w2.heap.size w2 w' := by
    have := (HK.out.below hb).reaches_ (u := 1) (v := 3) (by omega) (by omega)
    rw [rB_iff.2 ((aw_rch (by omega)).2 (by decide))] at this
    exact this
  have HK2 := Lib.hid (HK.out.below hb)
  have HB2 := Lib.hid (HB.out.trans (hb.mono HB.out.size))
  have H13 := Lib.hid h13
  clear h13 hb HB HK
  go_wp2_with fail
  refine H13.out.mono ?_
  clear H13
  rintro e w3 ⟨rfl, hb⟩
  have h04 : Calls Try.prog 14 #[.pointer (some ⟨gc, 0, none⟩), .int .i64 0, .int .i64 4] w3 fun e w' => e = .returned (.bool false) ∧ Below w3.heap.size w3 w' := by
    have := (HK2.out.below hb).reaches_ (u := 0) (v := 4) (by omega) (by omega)
    have hf : rB (EA aw) 0 4 = false := by
      cases hr : rB (EA aw) 0 4 with
      | false => rfl
      | true =>
        have := (aw_rch (by omega)).1 (rB_iff.1 hr)
        revert this
        decide
    rw [hf] at this
    exact this
  have HB3 := Lib.hid (HB2.out.trans (hb.mono HB2.out.size))
  have H04 := Lib.hid h04
  clear h04 hb HB2 HK2
  go_wp2_with fail
  refine H04.out.mono ?_
  clear H04
  rintro e w4 ⟨rfl, hb⟩
  have HB4 := Lib.hid (HB3.out.trans (hb.mono HB3.out.size))
  clear hb HB3
  go_wp2_with fail
  go_ret
  exact ⟨rfl, HB4.out⟩

end Go.Proofs.Ytdohfjidnbhfnaa.Lc

/- CoverBuilds, walked. -/
namespace Go.Proofs.Ytdohfjidnbhfnaa.Lc
open Go Go.RowKit Go.Proofs.Ytdohfjidnbhfnaa.Mem Go.Proofs.Ytdohfjidnbhfnaa.Sl Go.Proofs.Ytdohfjidnbhfnaa.Scc Go.Proofs.Ytdohfjidnbhfnaa.Tj Go.Proofs.Ytdohfjidnbhfnaa.Lw Go.Proofs.Ytdohfjidnbhfnaa.Cv Go.Proofs.Ytdohfjidnbhfnaa.Rb Go.Proofs.YtdohfjidnbhfnaaW.PrintWords Go.Proofs.YtdohfjidnbhfnaaW.PrintLast
attribute [local go_sem ↓] Go.wp_at_zero Go.wp_at_succ
set_option linter.unusedSimpArgs false
set_option linter.unusedVariables false

theorem num_of (n : Int) : ∃ m : Int, ((m < 0 ∨ 256 < m) ∨ ∃ k : Nat, m = (k : Int) ∧ k ≤ 40) ∧ ((¬ 40 < n ∧ m = n) ∨ (40 < n ∧ ¬ n ≤ 256 ∧ m = n) ∨ (40 < n ∧ n ≤ 256 ∧ m = n.tmod 40)) := by
  by_cases h1 : 40 < n
  · by_cases h2 : n ≤ 256
    · have h3 : n.tmod 40 = n % 40 := Int.tmod_eq_emod_of_nonneg (by omega)
      exact ⟨n.tmod 40, .inr ⟨(n.tmod 40).toNat, by omega, by omega⟩, .inr (.inr ⟨h1, h2, rfl⟩)⟩
    · exact ⟨n, .inl (.inr (by omega)), .inr (.inl ⟨h1, h2, rfl⟩)⟩
  · by_cases h0 : n < 0
    · exact ⟨n, .inl (.inl h0), .inl ⟨h1, rfl⟩⟩
    · exact ⟨n, .inr ⟨n.toNat, by omega, by omega⟩, .inl ⟨h1, rfl⟩⟩


set_option maxHeartbeats 16000000 in
set_option maxRecDepth 100000 in
theorem coverBuilds_calls (w : World) (n : Int) (a1 : Value) (arcs : List (Int × Int)) (h1 : ArgV w a1 arcs.length 2 (arcs2 arcs)) :
    Calls Try.prog 4 #[.int .i64 n, a1] w fun e w' => e = .returned (.bool true) ∧ Below w.heap.size w w' := by
  obtain ⟨m, hm, hmn⟩ := num_of n
  have HA := Lib.hid h1
  have HM := Lib.hid hm
  have HMN := Lib.hid hmn
  clear h1 hm hmn
  go_enter Try.func4, Try.ntmps4
  go_wp2_with fail
  refine (awake_calls w).mono ?_
  rintro e w1 ⟨rfl, hb1⟩
  have HB1 := Lib.hid hb1
  have HA1 := Lib.hid (HA.out.below hb1)
  clear hb1 HA
  go_wp2_with fail
  refine (cut2_calls w1 a1 arcs 120 HA1.out (by omega)).mono ?_
  clear HA1
  rintro e w2 ⟨v2, rfl, hO⟩
  obtain ⟨R, hR⟩ : ∃ R, arcs.take 120 = R := ⟨_, rfl⟩
  have hRn : R.length ≤ 120 := by rw [← hR, List.length_take]; omega
  rw [hR] at hO
  obtain ⟨A2, c2, rfl⟩ := Lw.own_slice hO.r
  have HRA := Lib.hid (RdA.of_own hO.r).1
  have HB2 := Lib.hid (HB1.out.trans (hO.b.mono HB1.out.size))
  clear hO hR HB1
  go_upto_region 4 with (fail)
  obtain ⟨bb, hbb⟩ : ∃ bb, decide (40 < n ∧ n ≤ 256) = bb := ⟨_, rfl⟩
  go_cut [18] (fun v18 wc => v18 = .bool bb ∧ wc = w2)
  case first =>
    rcases HMN.out with ⟨g1, _⟩ | ⟨g1, g2, _⟩ | ⟨g1, g2, _⟩
    · have e1 : decide (n > 40) = false := decide_eq_false (by omega)
      have e3 : bb = false := by rw [← hbb]; exact decide_eq_false (by omega)
      clear g1 hbb
      go_wp2
      go_meet
      exact ⟨by rw [e3], rfl⟩
    · have e1 : decide (n > 40) = true := decide_eq_true g1
      have e2 : decide (n ≤ 256) = false := decide_eq_false (by omega)
      have e3 : bb = false := by rw [← hbb]; exact decide_eq_false (by omega)
      clear g1 g2 hbb
      go_wp2
      go_meet
      exact ⟨by rw [e3], rfl⟩
    · have e1 : decide (n > 40) = true := decide_eq_true g1
      have e2 : decide (n ≤ 256) = true := decide_eq_true g2
      have e3 : bb = true := by rw [← hbb]; exact decide_eq_true ⟨g1, g2⟩
      clear g1 g2 hbb
      go_wp2
      go_meet
      exact ⟨by rw [e3], rfl⟩
  case rest =>
    obtain ⟨rfl, rfl⟩ := hcut
    cases bb with
    | false =>
      have hmn : m = n := by
        have h := of_decide_eq_false hbb
        rcases HMN.out with ⟨_, g⟩ | ⟨_, _, g⟩ | ⟨g1, g2, _⟩
        · exact g
        · exact g
        · exact absurd ⟨g1, g2⟩ h
      subst hmn
      clear hbb HMN
      rcases HM.out with hbad | ⟨k, rfl, hk⟩
      · have HCB := Lib.hid (build_range wc m A2 c2 R.length hbad)
        have HRB := Lib.hid (refbuild_range wc m A2 c2 R.length hbad)
        unfold cV at HRB
        clear hbad HM
        go_wp2_with fail
        refine HCB.out.mono ?_
        clear HCB
        rintro e wx ⟨rfl, rfl⟩
        go_wp2_with fail
        refine HRB.out.mono ?_
        clear HRB
        rintro e w4 ⟨rfl, hb4⟩
        have HB4 := Lib.hid (HB2.out.trans (hb4.mono HB2.out.size))
        clear hb4
        go_wp2
        go_ret
        exact ⟨rfl, HB4.out.alloc HB4.out.size _⟩
      · skip
        have hB := build_calls wc k A2 c2 R HRA.out (by omega) (by omega)
        have HB := Lib.hid hB
        clear hB HM
        go_wp2_with fail
        refine HB.out.mono ?_
        clear HB
        rintro e w3 ⟨hb3, ⟨hng, rfl⟩ | ⟨comp, mm, hco, hg, hab, rfl⟩ | ⟨⟨comp, mm, hco, hab⟩, hacy, ⟨rk, hrk⟩, gc, gn, ga, nd, al, L, rfl, hC⟩⟩
        · have hn : ¬ Cv.Good k R := fun h => by rw [good_rng.2 h] at hng; cases hng
          have hR := refbuild_calls w3 k A2 c2 0 R [] (HRA.out.below hb3) (by omega) (by omega) (fun h => absurd h hn) (fun h => absurd h hn)
          have HR := Lib.hid (And.intro hR hn)
          have HB3 := Lib.hid (HB2.out.trans (hb3.mono HB2.out.size))
          clear hR hn hng hb3
          go_wp2_with fail
          refine HR.out.1.mono ?_
          rintro e w4 ⟨hb4, ⟨_, rfl⟩ | ⟨h, _⟩ | ⟨h, _⟩⟩
          · unfold cV
            have HB4 := Lib.hid (HB3.out.trans (hb4.mono HB3.out.size))
            clear hb4 HR
            go_wp2
            go_ret
            exact ⟨rfl, HB4.out.alloc HB4.out.size _⟩
          · exact absurd h HR.out.2
          · exact absurd h HR.out.2
        · have hR := refbuild_calls w3 k A2 c2 mm R comp (HRA.out.below hb3) (by omega) (by omega) (fun _ => hco) (fun _ h => by rw [hab] at h; cases h)
          have HR := Lib.hid (And.intro hR (And.intro hg hab))
          have HB3 := Lib.hid (HB2.out.trans (hb3.mono HB2.out.size))
          clear hR hg hab hco hb3
          go_wp2_with fail
          refine HR.out.1.mono ?_
          rintro e w4 ⟨hb4, ⟨h, _⟩ | ⟨_, _, rfl⟩ | ⟨_, h, _⟩⟩
          · exact absurd HR.out.2.1 h
          · unfold cV
            have HB4 := Lib.hid (HB3.out.trans (hb4.mono HB3.out.size))
            clear hb4 HR
            go_wp2
            go_ret
            exact ⟨rfl, HB4.out.alloc HB4.out.size _⟩
          · have h2 := HR.out.2.2
            rw [h] at h2
            cases h2
        · have hK : Kn wc w3 gc k R R gn ga nd al L rk := ⟨hC, hrk, by omega, hacy, hacy.good, fun p hp => hp⟩
          have hR := refbuild_calls w3 k A2 c2 mm R comp (HRA.out.below hb3) (by omega) (by omega) (fun _ => hco) (fun _ _ => ⟨rk, hrk⟩)
          have HR := Lib.hid (And.intro hR (And.intro hK hab))
          have HB3 := Lib.hid (HB2.out.trans (hb3.mono HB2.out.size))
          clear hR hK hab hco hb3 hrk hacy hC
          go_wp2_with fail
          refine HR.out.1.mono ?_
          rintro e w4 ⟨hb4, ⟨h, _⟩ | ⟨_, h, _⟩ | ⟨_, _, A, AE, AP, AQ, AR, c, ce, cp, cq, cr, rfl, hRC⟩⟩
          · exact absurd HR.out.2.1.g0 h
          · have h2 := HR.out.2.2
            rw [h] at h2
            cases h2
          · have hK4 := HR.out.2.1.below hb4
            rw [PE_rng' hK4.g0] at hRC
            have hT : ∀ W, Below w4.heap.size w4 W → _ := fun W hW => tells_calls W A AE AP AQ AR c R.length ce cp cq cr (hK4.below hW) hk (hRC.ps.below hW) (hRC.qs.below hW) (hRC.rs.below hW)
            unfold cV at hT ⊢
            have HT := Lib.hid hT
            have HB4 := Lib.hid (HB3.out.trans (hb4.mono HB3.out.size))
            clear hT hK4 hRC hb4 HR
            go_wp2_with fail
            refine (HT.out _ ((Below.refl _ _).alloc (Nat.le_refl _) _)).mono ?_
            clear HT
            rintro e w5 ⟨rfl, hb5⟩
            have HB5 := Lib.hid ((HB4.out.alloc HB4.out.size _).trans (hb5.mono (by have := HB4.out.size; simp; omega)))
            clear hb5
            go_wp2_with fail
            go_ret
            exact ⟨rfl, HB5.out⟩
    | true =>
      obtain ⟨k, hk, hk1, hk2⟩ : ∃ k : Nat, k ≤ 40 ∧ wrap64 (n.tmod 40) = (k : Int) ∧ n.tmod 40 = (k : Int) := by
        have h := of_decide_eq_true hbb
        have h3 : n.tmod 40 = n % 40 := Int.tmod_eq_emod_of_nonneg (by omega)
        refine ⟨(n % 40).toNat, by omega, ?_, by omega⟩
        rw [h3]
        unfold wrap64
        omega
      clear hbb HMN
      have hB := build_calls wc k A2 c2 R HRA.out (by omega) (by omega)
      have HB := Lib.hid hB
      clear hB HM
      go_wp2_with fail
      refine HB.out.mono ?_
      clear HB
      rintro e w3 ⟨hb3, ⟨hng, rfl⟩ | ⟨comp, mm, hco, hg, hab, rfl⟩ | ⟨⟨comp, mm, hco, hab⟩, hacy, ⟨rk, hrk⟩, gc, gn, ga, nd, al, L, rfl, hC⟩⟩
      · have hn : ¬ Cv.Good k R := fun h => by rw [good_rng.2 h] at hng; cases hng
        have hR := refbuild_calls w3 k A2 c2 0 R [] (HRA.out.below hb3) (by omega) (by omega) (fun h => absurd h hn) (fun h => absurd h hn)
        have HR := Lib.hid (And.intro hR hn)
        have HB3 := Lib.hid (HB2.out.trans (hb3.mono HB2.out.size))
        clear hR hn hng hb3
        go_wp2_with fail
        refine HR.out.1.mono ?_
        rintro e w4 ⟨hb4, ⟨_, rfl⟩ | ⟨h, _⟩ | ⟨h, _⟩⟩
        · unfold cV
          have HB4 := Lib.hid (HB3.out.trans (hb4.mono HB3.out.size))
          clear hb4 HR
          go_wp2
          go_ret
          exact ⟨rfl, HB4.out.alloc HB4.out.size _⟩
        · exact absurd h HR.out.2
        · exact absurd h HR.out.2
      · have hR := refbuild_calls w3 k A2 c2 mm R comp (HRA.out.below hb3) (by omega) (by omega) (fun _ => hco) (fun _ h => by rw [hab] at h; cases h)
        have HR := Lib.hid (And.intro hR (And.intro hg hab))
        have HB3 := Lib.hid (HB2.out.trans (hb3.mono HB2.out.size))
        clear hR hg hab hco hb3
        go_wp2_with fail
        refine HR.out.1.mono ?_
        rintro e w4 ⟨hb4, ⟨h, _⟩ | ⟨_, _, rfl⟩ | ⟨_, h, _⟩⟩
        · exact absurd HR.out.2.1 h
        · unfold cV
          have HB4 := Lib.hid (HB3.out.trans (hb4.mono HB3.out.size))
          clear hb4 HR
          go_wp2
          go_ret
          exact ⟨rfl, HB4.out.alloc HB4.out.size _⟩
        · have h2 := HR.out.2.2
          rw [h] at h2
          cases h2
      · have hK : Kn wc w3 gc k R R gn ga nd al L rk := ⟨hC, hrk, by omega, hacy, hacy.good, fun p hp => hp⟩
        have hR := refbuild_calls w3 k A2 c2 mm R comp (HRA.out.below hb3) (by omega) (by omega) (fun _ => hco) (fun _ _ => ⟨rk, hrk⟩)
        have HR := Lib.hid (And.intro hR (And.intro hK hab))
        have HB3 := Lib.hid (HB2.out.trans (hb3.mono HB2.out.size))
        clear hR hK hab hco hb3 hrk hacy hC
        go_wp2_with fail
        refine HR.out.1.mono ?_
        rintro e w4 ⟨hb4, ⟨h, _⟩ | ⟨_, h, _⟩ | ⟨_, _, A, AE, AP, AQ, AR, c, ce, cp, cq, cr, rfl, hRC⟩⟩
        · exact absurd HR.out.2.1.g0 h
        · have h2 := HR.out.2.2
          rw [h] at h2
          cases h2
        · have hK4 := HR.out.2.1.below hb4
          rw [PE_rng' hK4.g0] at hRC
          have hT : ∀ W, Below w4.heap.size w4 W → _ := fun W hW => tells_calls W A AE AP AQ AR c R.length ce cp cq cr (hK4.below hW) hk (hRC.ps.below hW) (hRC.qs.below hW) (hRC.rs.below hW)
          unfold cV at hT ⊢
          have HT := Lib.hid hT
          have HB4 := Lib.hid (HB3.out.trans (hb4.mono HB3.out.size))
          clear hT hK4 hRC hb4 HR
          go_wp2_with fail
          refine (HT.out _ ((Below.refl _ _).alloc (Nat.le_refl _) _)).mono ?_
          clear HT
          rintro e w5 ⟨rfl, hb5⟩
          have HB5 := Lib.hid ((HB4.out.alloc HB4.out.size _).trans (hb5.mono (by have := HB4.out.size; simp; omega)))
          clear hb5
          go_wp2_with fail
          go_ret
          exact ⟨rfl, HB5.out⟩
end Go.Proofs.Ytdohfjidnbhfnaa.Lc
