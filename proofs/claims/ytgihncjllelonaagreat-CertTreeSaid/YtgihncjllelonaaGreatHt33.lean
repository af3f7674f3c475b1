/- brambleref01: parts, Counts, Add walked. -/
import Derived.Test.YtgihncjllelonaaGreatHt32
import Derived.Test.YtgihncjllelonaaGreatHt26
import Derived.Test.YtgihncjllelonaaGreatHt5
namespace Go.Proofs.YtgihncjllelonaaGreat.Wt
open Go Go.RowKit Go.Proofs.YtgihncjllelonaaGreat.Mem Go.Proofs.YtgihncjllelonaaGreat.Tj Go.Proofs.YtgihncjllelonaaGreat.Scc Go.Proofs.YtgihncjllelonaaGreatW.PrintWords Go.Proofs.YtgihncjllelonaaGreatW.PrintLast
attribute [local go_sem ↓] Go.wp_at_zero Go.wp_at_succ
set_option linter.unusedSimpArgs false
set_option linter.unusedVariables false

theorem wrap_sum (z n s : Nat) (h : s = z + n) (hs : s < 1125899906842624) : wrap64 (wrap64 (z : Int) + (n : Int)) = (s : Int) := by
  have h1 : wrap64 (z : Int) = (z : Int) := by
    unfold wrap64
    omega
  rw [h1]
  unfold wrap64
  omega
theorem wrap_pow (k : Nat) (h : k ≤ 30) : wrap64 (2 ^ k) = ((2 ^ k : Nat) : Int) := by
  have h1 : 2 ^ k ≤ 2 ^ 30 := Nat.pow_le_pow_right (by omega) h
  have h2 : (2 : Int) ^ k = ((2 ^ k : Nat) : Int) := by
    rw [Int.natCast_pow]
    rfl
  rw [h2]
  generalize 2 ^ k = z at h1
  unfold wrap64
  omega
theorem counts01_calls (a : Nat) (w : World) (ha : a ≤ 2139095040) : Calls Tryz.prog 122 #[.int .u32 (a : Int)] w fun e w' => e = .returned (.int .i64 (a : Int)) ∧ w' = w := by
  have q1 : ((a : Int) == 2147483648) = false := beq_eq_false_iff_ne.2 (by omega)
  have q2 : ¬ ((a : Int) > 2139095040) := by omega
  go_enter Tryz.func122, Tryz.ntmps122
  go_wp2
  go_ret
  exact ⟨by go_num, rfl⟩
set_option maxRecDepth 100000 in
theorem parts01_calls (a : Nat) (w : World) (ha : a < 2139095040) : Calls Tryz.prog 123 #[.int .i64 (a : Int)] w fun e w' => e = .returned (.tuple #[.int .i64 (mP a : Int), .int .i64 (eP a : Int)]) ∧ w' = w := by
  have hd : (a : Int).tdiv 8388608 = ((a / 8388608 : Nat) : Int) := (Int.ofNat_tdiv a 8388608).symm
  have hm : (a : Int).tmod 8388608 = ((a % 8388608 : Nat) : Int) := (Int.ofNat_tmod a 8388608).symm
  by_cases h : a < 8388608
  · have e1 : mP a = a % 8388608 := by unfold mP; rw [if_pos h]; omega
    have e2 : eP a = 1 := if_pos h
    rw [e1, e2]
    obtain ⟨d, hd'⟩ : ∃ d, a / 8388608 = d := ⟨_, rfl⟩
    obtain ⟨m, hm'⟩ : ∃ m, a % 8388608 = m := ⟨_, rfl⟩
    rw [hd'] at hd
    rw [hm'] at hm ⊢
    obtain rfl : d = 0 := by omega
    clear e1 e2 h hd' hm'
    go_enter Tryz.func123, Tryz.ntmps123
    go_wp2
    go_ret2
    exact ⟨rfl, rfl⟩
  · have e1 : mP a = 8388608 + a % 8388608 := if_neg h
    have e2 : eP a = a / 8388608 := if_neg h
    rw [e1, e2]
    obtain ⟨d, hd'⟩ : ∃ d, a / 8388608 = d := ⟨_, rfl⟩
    obtain ⟨m, hm'⟩ : ∃ m, a % 8388608 = m := ⟨_, rfl⟩
    rw [hd'] at hd ⊢
    rw [hm'] at hm ⊢
    have q1 : ((d : Int) == 0) = false := beq_eq_false_iff_ne.2 (by omega)
    have q2 : (m : Int) < 8388608 := by omega
    have qs : wrap64 ((m : Int) + 8388608) = ((8388608 + m : Nat) : Int) := by
      have q2' : (m : Int) ≥ 0 := by omega
      unfold wrap64
      omega
    obtain ⟨M, hM⟩ : ∃ M, 8388608 + m = M := ⟨_, rfl⟩
    rw [hM] at qs ⊢
    have q3 : (d : Int) ≤ 300 := by omega
    have HQ := Lib.hid qs
    clear e1 e2 h hd' hm' hM q2 qs
    go_enter Tryz.func123, Tryz.ntmps123
    go_wp2
    go_ret2
    exact ⟨by rw [← HQ.out]; rfl, rfl⟩
def tb81_12.T12 : Bool × List (List Nat × List Nat) := (true, [([], []), ([], []), ([0, 1], [0, 1]), ([], []), ([], []), ([4], [4]), ([3, 5], [3, 5]), ([2, 0, 1, 2], [2]), ([6, 7, 0, 1, 2, 3, 4, 5, 6, 7], [6]), ([8, 0, 1, 2, 3, 4, 5, 6, 7, 8], [])])
def tb81_12.B12 : List Nat := [0, 0, 3, 0, 0, 16, 56, 7, 255, 511]
theorem tb81_12.tab12 : rtab .any (opsOf Tryz.f81 12) = tb81_12.T12 := by kernel_rfl
theorem tb81_12.bits12 : waitsOk tb81_12.T12.2 tb81_12.B12 = true := by kernel_rfl
set_option maxHeartbeats 8000000 in
set_option maxRecDepth 100000 in
theorem add01_calls (a b : Nat) (w : World) (ha : a ≤ 2139095040) (hb : b ≤ 2139095040) : Calls Tryz.prog 81 #[.int .u32 (a : Int), .int .u32 (b : Int)] w fun e w' => e = .returned (.int .u32 (add32 a b : Int)) ∧ Below w.heap.size w w' := by
  have HA := Lib.hid (counts01_calls a w ha)
  have HB := Lib.hid (counts01_calls b w hb)
  obtain ⟨x, y, hx, hy, hxy, hor⟩ : ∃ x y, max (a : Int) (b : Int) = ((x : Nat) : Int) ∧ min (a : Int) (b : Int) = ((y : Nat) : Int) ∧ y ≤ x ∧ ((x = a ∧ y = b) ∨ (x = b ∧ y = a)) := by
    by_cases h : a ≤ b
    · exact ⟨b, a, by omega, by omega, h, .inr ⟨rfl, rfl⟩⟩
    · exact ⟨a, b, by omega, by omega, by omega, .inl ⟨rfl, rfl⟩⟩
  have hs : add32 a b = add32 x y := by
    rcases hor with ⟨rfl, rfl⟩ | ⟨rfl, rfl⟩
    · rfl
    · exact add32_comm ha hb
  have hxl : x ≤ 2139095040 := by omega
  have hyl : y ≤ 2139095040 := by omega
  rw [hs]
  by_cases hinf : x = 2139095040
  · subst hinf
    rw [add32_inf hxl hyl (.inl rfl)]
    clear hs hor hxy hxl hyl ha hb
    go_enter Tryz.func81, Tryz.ntmps81
    go_wp2_with fail
    refine HA.out.mono ?_
    rintro e w1 ⟨rfl, rfl⟩
    go_wp2_with fail
    refine HB.out.mono ?_
    rintro e w1 ⟨rfl, rfl⟩
    go_wp2_with fail
    refine HA.out.mono ?_
    rintro e w1 ⟨rfl, rfl⟩
    go_wp2_with fail
    refine HB.out.mono ?_
    rintro e w1 ⟨rfl, rfl⟩
    go_wp2
    go_ret
    exact ⟨rfl, Below.refl _ _⟩
  · have hx2 : x < 2139095040 := by omega
    have hy2 : y < 2139095040 := by omega
    have HP := Lib.hid (parts01_calls x w hx2)
    have HR := Lib.hid (parts01_calls y w hy2)
    have q1 : ((x : Int) == 2139095040) = false := beq_eq_false_iff_ne.2 (by omega)
    have e1 := eP_pos y
    have e2 := eP_mono hxy
    have e3 := eP_lt hx2
    have h1 := mP_lt x
    have h2 := mP_lt y
    rw [add32_fin hx2 hy2]
    by_cases hfar : 26 ≤ eP x - eP y
    · rw [add_far hx2 hfar]
      obtain ⟨e, he⟩ : ∃ e, eP x = e := ⟨_, rfl⟩
      obtain ⟨f, hf⟩ : ∃ f, eP y = f := ⟨_, rfl⟩
      obtain ⟨m, hm⟩ : ∃ m, mP x = m := ⟨_, rfl⟩
      obtain ⟨n, hn⟩ : ∃ n, mP y = n := ⟨_, rfl⟩
      rw [he, hm] at HP
      rw [hf, hn] at HR
      rw [he, hf] at hfar e2
      rw [hf] at e1
      rw [he] at e3
      have q2 : (e : Int) - (f : Int) ≥ 26 := by omega
      clear he hf hm hn h1 h2 hs hor hxy ha hb hinf hfar
      go_enter Tryz.func81, Tryz.ntmps81
      go_wp2_with fail
      refine HA.out.mono ?_
      rintro e w1 ⟨rfl, rfl⟩
      go_wp2_with fail
      refine HB.out.mono ?_
      rintro e w1 ⟨rfl, rfl⟩
      go_wp2_with fail
      refine HA.out.mono ?_
      rintro e w1 ⟨rfl, rfl⟩
      go_wp2_with fail
      refine HB.out.mono ?_
      rintro e w1 ⟨rfl, rfl⟩
      go_wp2_with fail
      refine HP.out.mono ?_
      rintro e w1 ⟨rfl, rfl⟩
      go_wp2_with fail
      refine HR.out.mono ?_
      rintro e w1 ⟨rfl, rfl⟩
      go_wp2
      go_ret
      exact ⟨by go_num, Below.refl _ _⟩
    · have hlt : eP x - eP y < 26 := by omega
      rw [add_near hxy hx2]
      have hS := sP_lt hlt
      have hT := sP_log hlt
      have hTi := shift_iff (sP x y)
      have hSv : sP x y = mP x * 2 ^ (eP x - eP y) + mP y := rfl
      obtain ⟨e, he⟩ : ∃ e, eP x = e := ⟨_, rfl⟩
      obtain ⟨f, hf⟩ : ∃ f, eP y = f := ⟨_, rfl⟩
      obtain ⟨m, hm⟩ : ∃ m, mP x = m := ⟨_, rfl⟩
      obtain ⟨n, hn⟩ : ∃ n, mP y = n := ⟨_, rfl⟩
      obtain ⟨s, hs'⟩ : ∃ s, sP x y = s := ⟨_, rfl⟩
      obtain ⟨t, ht⟩ : ∃ t, s.log2 - 23 = t := ⟨_, rfl⟩
      rw [he, hm] at HP
      rw [hf, hn] at HR
      rw [hs', he, hf, hm, hn] at hSv
      rw [hs'] at hS
      rw [hs', ht] at hT
      rw [hs', ht] at hTi
      rw [hs', hf, ht]
      rw [he, hf] at hlt e2
      rw [hf] at e1
      rw [he] at e3
      obtain ⟨ans, hans⟩ : ∃ a, outP f t (rne s t) = a := ⟨_, rfl⟩
      rw [hans]
      have q2 : ¬ ((e : Int) - (f : Int) ≥ 26) := by omega
      have q3 : (0 : Int) ≤ (e : Int) - (f : Int) := by omega
      have H := Lib.hid (And.intro hS (And.intro hT (And.intro hTi (And.intro hSv hans))))
      clear he hf hm hn h1 h2 hs hor hxy ha hb hinf hfar hs' ht hS hT hTi hSv hans
      go_enter Tryz.func81, Tryz.ntmps81
      go_wp2_with fail
      refine HA.out.mono ?_
      rintro e w1 ⟨rfl, rfl⟩
      go_wp2_with fail
      refine HB.out.mono ?_
      rintro e w1 ⟨rfl, rfl⟩
      go_wp2_with fail
      refine HA.out.mono ?_
      rintro e w1 ⟨rfl, rfl⟩
      go_wp2_with fail
      refine HB.out.mono ?_
      rintro e w1 ⟨rfl, rfl⟩
      go_wp2_with fail
      refine HP.out.mono ?_
      rintro e w1 ⟨rfl, rfl⟩
      go_wp2_with fail
      refine HR.out.mono ?_
      rintro e w1 ⟨rfl, rfl⟩
      go_wp2_with fail
      have hsv : wrap64 (wrap64 ((m : Int) * 2 ^ (e - f)) + (n : Int)) = (s : Int) := by
        obtain ⟨g1, -, -, g2, -⟩ := H.out
        have g3 : ((m : Int) * 2 ^ (e - f)) = ((m * 2 ^ (e - f) : Nat) : Int) := by
          rw [Int.natCast_mul, Int.natCast_pow]
          rfl
        rw [g3]
        exact wrap_sum _ _ _ g2 g1
      rw [hsv]
      have HF := Lib.hid (And.intro (show f ≤ 254 from by omega) e1)
      clear hsv HA HB HP HR q1 q2 q3 hlt e1 e2 e3 hx hy hxl hyl hx2 hy2
      go_loopg [12] t (fun kq v12 w' => ∃ k : Nat, v12 = .int .i64 (k : Int) ∧ Hid (k + kq = t ∧ w' = w1))
      case atStart => exact ⟨0, rfl, Lib.hid ⟨by omega, rfl⟩⟩
      case round =>
        obtain ⟨k, rfl, hJ⟩ := hrel
        obtain ⟨hkk, rfl⟩ := hJ.out
        clear hJ
        have hk27 : (k : Int) ≤ 26 := by
          have := H.out.2.1
          omega
        have hcast : (s : Int) / 2 ^ k = ((s / 2 ^ k : Nat) : Int) := by
          rw [Int.natCast_ediv, Int.natCast_pow]
          rfl
        by_cases hj : k < t
        · obtain ⟨k1, rfl⟩ : ∃ k1, gk = k1 + 1 := ⟨gk - 1, by omega⟩
          have q : (s : Int) / 2 ^ k ≥ 16777216 := by
            have := (H.out.2.2.1 k).2 hj
            rw [hcast]
            omega
          have HN := Lib.hid (And.intro hkk hj)
          clear hj hkk hcast
          go_wp2
          go_roundg k1
          case measure => omega
          case rel => exact ⟨k + 1, by go_num, Lib.hid ⟨by have := HN.out.1; omega, rfl⟩⟩
        · obtain rfl : k = t := by omega
          have q : ¬ (s : Int) / 2 ^ k ≥ 16777216 := by
            have := (H.out.2.2.1 k).1
            rw [hcast]
            omega
          have HN := Lib.hid hcast
          clear hj hkk hcast
          have hk0 : (0 : Int) ≤ (k : Int) := by omega
          have hw : wrap64 (2 ^ k) = ((2 ^ k : Nat) : Int) := wrap_pow k (by omega)
          have hp : ¬ wrap64 (2 ^ k) = 0 := by
            have := Nat.two_pow_pos k
            rw [hw]
            omega
          have hr : (s : Int).tmod (wrap64 (2 ^ k)) = ((s % 2 ^ k : Nat) : Int) := by
            rw [hw]
            exact (Int.ofNat_tmod _ _).symm
          have HR := Lib.hid hr
          clear hr hw
          go_wp2_with fail
          refine start_ (n := 10) (S := fun w' => True) (ds := []) (bA 10 0) (by kernel_rfl) rfl rfl trivial (fun hHeld => ?_)
          refine with_tabW tb81_12.tab12 tb81_12.bits12 (fun HT_ HW_ => ?_)
          refine pw_ 0 57 (bA 10 1) HT_.out ?_
          refine pw_ 1 58 (bA 10 3) HT_.out ?_
          refine pw_ 2 59 (bA 10 7) HT_.out ?_
          refine pw_ 3 60 (bA 10 15) HT_.out ?_
          refine pw_ 4 61 (bA 10 31) HT_.out ?_
          refine pw_ 5 62 (bA 10 63) HT_.out ?_
          refine pw_ 6 63 (bA 10 127) HT_.out ?_
          refine pw_ 7 13 (bA 10 255) HT_.out ?_
          refine pw_ 8 14 (bA 10 511) HT_.out ?_
          refine pw_ 9 15 (bA 10 1023) HT_.out ?_
          refine done_ (done_of HT_.out (by kernel_rfl)) ?_
          clear hHeld HT_ HW_
          have e1 := HN.out
          have e2 := HR.out
          rw [e1, e2]
          obtain ⟨d, hd⟩ : ∃ d, s / 2 ^ k = d := ⟨_, rfl⟩
          obtain ⟨r, hr⟩ : ∃ r, s % 2 ^ k = r := ⟨_, rfl⟩
          obtain ⟨wd, hwd⟩ : ∃ wd, wr.drew = wd := ⟨_, rfl⟩
          have HB := Lib.hid (show Below wr.heap.size wr wd from by rw [← hwd]; exact (Below.refl _ _).drew)
          rw [hd, hr, hwd]
          rw [hd] at e1
          have hdl : d < 16777216 := by
            rw [e1] at q
            omega
          have HD := Lib.hid (And.intro hd (And.intro hr hdl))
          clear e1 e2 HN HR hd hr hdl q hp
          go_upto_if 65 with (fail)
          go_cut [15] from 65 to 68 (fun s15 wx => ∃ h : Nat, s15 = .int .i64 (h : Int) ∧ wx = wd ∧ Hid (if 0 < k then h = 2 ^ (k - 1) else h = 0))
          case first =>
            by_cases hk : (k : Int) > 0
            · have hw1 : wrap64 (2 ^ (k - 1)) = ((2 ^ (k - 1) : Nat) : Int) := wrap_pow (k - 1) (by omega)
              have HW := Lib.hid hw1
              clear hw1
              have hk1 : (k : Int) - 1 ≥ 0 := by omega
              go_wp2_with fail
              go_meet
              refine ⟨_, ?_, rfl, Lib.hid (by rw [if_pos (by omega)])⟩
              rw [← HW.out]
            · go_wp2_with fail
              go_meet
              exact ⟨0, rfl, rfl, Lib.hid (by rw [if_neg (by omega)])⟩
          case rest =>
            obtain ⟨h, rfl, rfl, hh⟩ := hcut
            have HH := Lib.hid hh.out
            clear hh
            obtain ⟨up, hup⟩ : ∃ up, (decide (2 ^ k < 2 * (s % 2 ^ k)) || (2 ^ k == 2 * (s % 2 ^ k) && s / 2 ^ k % 2 == 1)) = up := ⟨_, rfl⟩
            have HU := Lib.hid hup
            clear hup
            go_upto_region 15 with (fail)
            go_cut [85] from 65 to 84 (fun s85 wx => s85 = .bool up ∧ wx = wc)
            case first =>
              obtain ⟨hd, hr, hdl⟩ := HD.out
              have hu := HU.out
              have hH := HH.out
              rw [hd, hr] at hu
              by_cases hk : (k : Int) > 0
              · rw [if_pos (by omega)] at hH
                have hP : 2 ^ k = 2 * h := by
                  rw [hH, ← Nat.pow_succ']
                  congr 1
                  omega
                rw [hP] at hu
                have htm : (d : Int).tmod 2 = ((d % 2 : Nat) : Int) := (Int.ofNat_tmod d 2).symm
                clear hH hP hd hr
                by_cases c1 : h < r
                · have : up = true := by
                    rw [← hu, decide_eq_true (by omega)]
                    rfl
                  subst this
                  have q1 : (r : Int) > (h : Int) := by omega
                  clear c1 hu htm
                  go_wp2_with fail
                  go_meet
                  exact ⟨rfl, rfl⟩
                · have q1 : ¬ (r : Int) > (h : Int) := by omega
                  by_cases c2 : h = r
                  · subst c2
                    have q2 : ((h : Int) == (h : Int)) = true := by simp
                    by_cases c3 : d % 2 = 1
                    · have : up = true := by
                        rw [← hu, decide_eq_false (by omega), c3]
                        simp
                      subst this
                      have HZ := Lib.hid (show ((d : Int) % 2 == 1) = true from beq_iff_eq.2 (by omega))
                      clear c1 c3 hu htm
                      go_wp2_with fail
                      go_meet
                      exact ⟨by rw [HZ.out], rfl⟩
                    · have : up = false := by
                        rw [← hu, decide_eq_false (by omega), beq_eq_false_iff_ne.2 c3]
                        simp
                      subst this
                      have HZ := Lib.hid (show ((d : Int) % 2 == 1) = false from beq_eq_false_iff_ne.2 (by omega))
                      clear c1 c3 hu htm
                      go_wp2_with fail
                      go_meet
                      exact ⟨by rw [HZ.out], rfl⟩
                  · have : up = false := by
                      rw [← hu, decide_eq_false (by omega), beq_eq_false_iff_ne.2 (by omega)]
                      rfl
                    subst this
                    have q2 : ((r : Int) == (h : Int)) = false := beq_eq_false_iff_ne.2 (by omega)
                    clear c1 c2 hu htm
                    go_wp2_with fail
                    go_meet
                    exact ⟨rfl, rfl⟩
              · obtain rfl : k = 0 := by omega
                have : up = false := by
                  rw [← hu, ← hr, Nat.pow_zero, Nat.mod_one]
                  rfl
                subst this
                clear hu hH hd hr hdl
                go_wp2_with fail
                go_meet
                exact ⟨rfl, rfl⟩
            case rest =>
              obtain ⟨rfl, rfl⟩ := hcut
              obtain ⟨hd, hr, hdl⟩ := HD.out
              have qd : (d : Int) < 16777216 := by omega
              have qf : (f : Int) ≤ 254 ∧ 1 ≤ (f : Int) := by
                have := HF.out
                omega
              obtain ⟨qf1, qf2⟩ := qf
              have hf1 := HF.out
              cases up with
              | true =>
                have HA := Lib.hid (show outP f k (d + 1) = ans from by
                  rw [← hd, ← rne_up s k HU.out]
                  exact H.out.2.2.2.2)
                clear hd hr hdl
                by_cases c1 : d + 1 = 16777216
                · have q1 : ((d : Int) + 1 == 16777216) = true := beq_iff_eq.2 (by omega)
                  by_cases c2 : 255 ≤ f + (k + 1)
                  · have q2 : (f : Int) + ((k : Int) + 1) ≥ 255 := by omega
                    have HV := Lib.hid (show ans = 2139095040 from by
                      rw [← HA.out]
                      unfold outP
                      simp only [if_pos c1, if_pos c2])
                    clear HA c1 c2
                    go_wp2
                    go_ret
                    exact ⟨by rw [HV.out]; go_num, HB.out⟩
                  · have q2 : ¬ (f : Int) + ((k : Int) + 1) ≥ 255 := by omega
                    have HV := Lib.hid (show ans = (f + (k + 1)) * 8388608 from by
                      rw [← HA.out]
                      unfold outP
                      simp only [if_pos c1, if_neg c2]
                      rw [if_neg (by omega), Nat.add_sub_cancel])
                    clear HA c1 c2
                    go_wp2
                    go_ret
                    exact ⟨by rw [HV.out]; go_num, HB.out⟩
                · have q1 : ((d : Int) + 1 == 16777216) = false := beq_eq_false_iff_ne.2 (by omega)
                  by_cases c2 : 255 ≤ f + k
                  · have q2 : (f : Int) + (k : Int) ≥ 255 := by omega
                    have HV := Lib.hid (show ans = 2139095040 from by
                      rw [← HA.out]
                      unfold outP
                      simp only [if_neg c1, if_pos c2])
                    clear HA c1 c2
                    go_wp2
                    go_ret
                    exact ⟨by rw [HV.out]; go_num, HB.out⟩
                  · by_cases c3 : d + 1 < 8388608
                    · have q2 : ¬ (f : Int) + (k : Int) ≥ 255 := by omega
                      have q3 : (d : Int) + 1 < 8388608 := by omega -- c3
                      have HV := Lib.hid (show ans = d + 1 from by
                        rw [← HA.out]
                        unfold outP
                        simp only [if_neg c1, if_neg c2, if_pos c3])
                      clear HA c1 c2 c3
                      go_wp2
                      go_ret
                      exact ⟨by rw [HV.out]; go_num, HB.out⟩
                    · have q2 : ¬ (f : Int) + (k : Int) ≥ 255 := by omega
                      have q3 : ¬ (d : Int) + 1 < 8388608 := by omega -- c3
                      have HV := Lib.hid (show ans = (f + k) * 8388608 + (d + 1) - 8388608 from by
                        rw [← HA.out]
                        unfold outP
                        simp only [if_neg c1, if_neg c2, if_neg c3])
                      clear HA c1 c2 c3
                      go_wp2
                      go_ret
                      exact ⟨by rw [HV.out]; go_num, HB.out⟩
              | false =>
                have HA := Lib.hid (show outP f k d = ans from by
                  rw [← hd, ← rne_down s k HU.out]
                  exact H.out.2.2.2.2)
                clear hd hr hdl
                have c1 : ¬ d = 16777216 := by omega
                have q1 : ((d : Int) == 16777216) = false := beq_eq_false_iff_ne.2 (by omega)
                by_cases c2 : 255 ≤ f + k
                · have q2 : (f : Int) + (k : Int) ≥ 255 := by omega
                  have HV := Lib.hid (show ans = 2139095040 from by
                    rw [← HA.out]
                    unfold outP
                    simp only [if_neg c1, if_pos c2])
                  clear HA c1 c2
                  go_wp2
                  go_ret
                  exact ⟨by rw [HV.out]; go_num, HB.out⟩
                · by_cases c3 : d < 8388608
                  · have q2 : ¬ (f : Int) + (k : Int) ≥ 255 := by omega
                    have q3 : (d : Int) < 8388608 := by omega -- c3
                    have HV := Lib.hid (show ans = d from by
                      rw [← HA.out]
                      unfold outP
                      simp only [if_neg c1, if_neg c2, if_pos c3])
                    clear HA c1 c2 c3
                    go_wp2
                    go_ret
                    exact ⟨by rw [HV.out]; go_num, HB.out⟩
                  · have q2 : ¬ (f : Int) + (k : Int) ≥ 255 := by omega
                    have q3 : ¬ (d : Int) < 8388608 := by omega -- c3
                    have HV := Lib.hid (show ans = (f + k) * 8388608 + d - 8388608 from by
                      rw [← HA.out]
                      unfold outP
                      simp only [if_neg c1, if_neg c2, if_neg c3])
                    clear HA c1 c2 c3
                    go_wp2
                    go_ret
                    exact ⟨by rw [HV.out]; go_num, HB.out⟩
end Go.Proofs.YtgihncjllelonaaGreat.Wt
