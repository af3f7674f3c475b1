/- weight: what is done to floats. -/
import Derived.Test.YtgihncjllelonaaGreatProg
import Derived.Test.YtgihncjllelonaaGreatHt1
import Derived.Test.YtgihncjllelonaaGreatHt13
import Derived.KernelRfl
import Derived.Deep.DrawnRows
import Derived.BigRegion
import Derived.Outline
import Derived.WalkLawsBesides
import Derived.WalkSpells
import Derived.Lib.Hide
namespace Go.Proofs.YtgihncjllelonaaGreat.Wt
open Go Go.RowKit Go.Proofs.YtgihncjllelonaaGreat.Mem
attribute [local go_sem ↓] Go.wp_at_zero Go.wp_at_succ
set_option linter.unusedSimpArgs false
set_option linter.unusedVariables false

theorem run_store_float {P : Program} {w : World} {a : Addr} {m : Mode} (k : FloatKind) (b : Nat) : (store a (.float k b) m).run P w = stored P w a (.float k b) m := run_store P w a _ m rfl
theorem before_calls (a b : Nat) (w : World) (ha : a ≤ 2139095040) (hb : b ≤ 2139095040) : Calls Tryz.prog 56 #[.float .f32 a, .float .f32 b] w fun e w' => e = .returned (.bool (decide (a < b))) ∧ w' = w := by
  have h := Lib.hid (lt_cost ha hb)
  clear ha hb
  go_enter Tryz.func56, Tryz.ntmps56
  go_wp2
  go_ret
  rw [← h.out]
  exact ⟨rfl, rfl⟩
theorem frombits_run (n : Int) (w : World) : (callFunc 60 #[.int .u32 n]).run Tryz.prog w = .ok (.value (.float .f32 n.toNat)) w := by kernel_rfl
theorem bits_run (n : Nat) (w : World) : (callFunc 94 #[.float .f32 n]).run Tryz.prog w = .ok (.value (.int .u32 n)) w := by kernel_rfl
theorem frombits64_run (n : Int) (w : World) : (callFunc 165 #[.int .u64 n]).run Tryz.prog w = .ok (.value (.float .f64 n.toNat)) w := by kernel_rfl
theorem conv_inf (w : World) : (convert 232 108 (.float .f64 9218868437227405312)).run Tryz.prog w = .ok (.float .f32 2139095040) w := by kernel_rfl
theorem inf_calls (w : World) : Calls Tryz.prog 140 #[.int .i64 1] w fun e w' => e = .returned (.float .f64 9218868437227405312) ∧ w' = w := by
  have h := frombits64_run 9218868437227405312 w
  have h2 : (9218868437227405312 : Int).toNat = 9218868437227405312 := rfl
  rw [h2] at h
  go_enter Tryz.func140, Tryz.ntmps140
  go_wp2
  go_ret
  exact ⟨rfl, rfl⟩
theorem cost_calls (n : Nat) (w : World) : Calls Tryz.prog 93 #[.float .f32 n] w fun e w' => e = .returned (.bool (decide (n ≤ 2139095040))) ∧ w' = w := by
  have h := bits_run n w
  have h2 := Lib.hid (show decide ((n : Int) ≤ 2139095040) = decide (n ≤ 2139095040) from by simp only [decide_eq_decide]; omega)
  go_enter Tryz.func93, Tryz.ntmps93
  go_wp2
  go_ret
  rw [← h2.out]
  exact ⟨rfl, rfl⟩
def cnt (n : Nat) : Nat := if FloatKind.f32.format.order n 0 == some .eq then 0 else if FloatKind.f32.format.order n 0 == some .gt then n else 2139095040
theorem cnt_cost {n : Nat} (h : n ≤ 2139095040) : cnt n = n := by
  unfold cnt
  have h0 : FloatKind.f32.format.order n 0 = some (compare n 0) := order_cost h (by omega)
  rw [h0]
  rcases Nat.eq_zero_or_pos n with rfl | hp
  · rfl
  · rw [Nat.compare_eq_gt.2 hp]
    rfl
theorem order_gt {n : Nat} (h : n < 4294967296) (hg : Ieee.single.order n 0 = some .gt) : n ≤ 2139095040 := by
  rcases Nat.lt_or_ge n 2147483648 with h1 | h1
  · apply Nat.le_of_not_lt
    intro hc
    have : Ieee.single.read n = .nan false (n - 2139095040) := by
      unfold Ieee.Format.read
      rw [sgn_eq, bin_eq, inf_eq]
      have e1 : n / 2147483648 = 0 := Nat.div_eq_of_lt (by omega)
      have e2 : n % 2147483648 = n := Nat.mod_eq_of_lt (by omega)
      simp only [e1, e2]
      rw [if_neg (by omega), if_neg (by omega), if_neg (by omega)]
      rfl
    unfold Ieee.Format.order at hg
    rw [this] at hg
    cases hg
  · exfalso
    have e1 : n / 2147483648 = 1 := by omega
    obtain ⟨r, hr⟩ : ∃ r, n % 2147483648 = r := ⟨_, rfl⟩
    have h0 : Ieee.single.read 0 = .number false 0 Ieee.single.leastPlace := rfl
    have hz : ∀ (m up k : Nat), compare (Ieee.signed true m up) (Ieee.signed false 0 k) ≠ Ordering.gt := by
      intro m up k hgt
      rw [signed_false] at hgt
      have hs : Ieee.signed true m up ≤ 0 := by
        show -((m <<< up : Nat) : Int) ≤ 0
        exact Int.neg_nonpos_of_nonneg (Int.natCast_nonneg _)
      rcases Int.lt_or_eq_of_le hs with h | h
      · rw [cmp_lt (by simpa using h)] at hgt; cases hgt
      · rw [cmp_eq (by simpa using h)] at hgt; cases hgt
    unfold Ieee.Format.order at hg
    rw [h0] at hg
    unfold Ieee.Format.read at hg
    rw [sgn_eq, bin_eq, inf_eq] at hg
    simp only [e1, hr] at hg
    split at hg
    · exact hz _ _ _ (Option.some.inj hg)
    · split at hg
      · exact hz _ _ _ (Option.some.inj hg)
      · split at hg
        · cases hg
        · cases hg
theorem cnt_le {n : Nat} (h : n < 4294967296) : cnt n ≤ 2139095040 := by
  unfold cnt
  split
  · omega
  · split
    · rename_i h1
      exact order_gt h (eq_of_beq h1)
    · omega
set_option maxRecDepth 100000 in
set_option maxHeartbeats 4000000 in
theorem counts_calls (n : Nat) (w : World) : Calls Tryz.prog 109 #[.float .f32 n] w fun e w' => e = .returned (.float .f32 (cnt n)) ∧ w' = w := by
  have HI := Lib.hid (inf_calls w)
  have hc := conv_inf w
  obtain ⟨m, hm⟩ : ∃ m, cnt n = m := ⟨_, rfl⟩
  rw [hm]
  unfold cnt at hm
  cases h0 : FloatKind.f32.format.order n 0 == some .eq with
  | true =>
    rw [h0] at hm
    have HM := Lib.hid (show 0 = m from hm)
    clear hm
    go_enter Tryz.func109, Tryz.ntmps109
    go_wp2
    go_ret
    rw [← HM.out]
    exact ⟨rfl, rfl⟩
  | false =>
    rw [h0] at hm
    cases h1 : FloatKind.f32.format.order n 0 == some .gt with
    | true =>
      rw [h1] at hm
      have HM := Lib.hid (show n = m from hm)
      clear hm
      go_enter Tryz.func109, Tryz.ntmps109
      go_wp2
      go_ret
      rw [← HM.out]
      exact ⟨rfl, rfl⟩
    | false =>
      rw [h1] at hm
      have HM := Lib.hid (show 2139095040 = m from hm)
      clear hm
      go_enter Tryz.func109, Tryz.ntmps109
      go_wp2_with fail
      refine HI.out.mono ?_
      rintro e w1 ⟨rfl, rfl⟩
      go_wp2
      go_ret
      rw [← HM.out]
      exact ⟨rfl, rfl⟩
def add32 (a b : Nat) : Nat := (Ieee.single.add (cnt a) (cnt b)).getD 0
theorem add32_some {a b : Nat} (ha : a < 4294967296) (hb : b < 4294967296) : Ieee.single.add (cnt a) (cnt b) = some (add32 a b) ∧ add32 a b ≤ 2139095040 := by
  obtain ⟨r, h1, h2⟩ := add_cost (cnt_le ha) (cnt_le hb)
  unfold add32
  rw [h1]
  exact ⟨rfl, h2⟩
theorem add_calls (a b : Nat) (w : World) (ha : a < 4294967296) (hb : b < 4294967296) : Calls Tryz.prog 59 #[.float .f32 a, .float .f32 b] w fun e w' => e = .returned (.float .f32 (add32 a b)) ∧ w' = w := by
  have HA := Lib.hid (counts_calls a w)
  have HB := Lib.hid (counts_calls b w)
  obtain ⟨c, hc⟩ : ∃ c, cnt a = c := ⟨_, rfl⟩
  obtain ⟨d, hd⟩ : ∃ d, cnt b = d := ⟨_, rfl⟩
  obtain ⟨r, hr⟩ : ∃ r, add32 a b = r := ⟨_, rfl⟩
  have hs := (add32_some ha hb).1
  rw [hc, hd, hr] at hs
  rw [hc] at HA
  rw [hd] at HB
  rw [hr]
  have hrun := run_float_arith (P := Tryz.prog) (w := w) .add 108 .f32 c d r hs
  clear ha hb hc hd hr hs
  go_enter Tryz.func59, Tryz.ntmps59
  go_wp2_with fail
  refine HA.out.mono ?_
  rintro e w1 ⟨rfl, rfl⟩
  go_wp2_with fail
  refine HB.out.mono ?_
  rintro e w1 ⟨rfl, rfl⟩
  go_wp2
  go_ret
  exact ⟨rfl, rfl⟩
theorem wbits_calls (n : Nat) (w : World) (h : n ≤ 2139095040) : Calls Tryz.prog 47 #[.float .f32 n] w fun e w' => e = .returned (.int .u32 (n : Int)) ∧ w' = w := by
  have hb := bits_run n w
  have h0 : FloatKind.f32.format.order n n = some .eq := (order_cost h h).trans (by rw [Nat.compare_eq_eq.2 rfl])
  clear h
  go_enter Tryz.func47, Tryz.ntmps47
  go_wp2
  go_ret
  exact ⟨rfl, rfl⟩
def admB (n : Nat) : Nat := if n = 2147483648 then 0 else n
def admOk (n : Nat) : Bool := decide (n = 2147483648 ∨ n < 2139095040)
theorem order_zero {n : Nat} (h : n < 4294967296) : (FloatKind.f32.format.order n 0 == some .eq) = decide (n = 0 ∨ n = 2147483648) := by
  show (Ieee.single.order n 0 == some .eq) = _
  rcases Nat.lt_trichotomy n 2147483648 with h1 | h1 | h1
  · rcases Nat.lt_or_ge 2139095040 n with h2 | h2
    · have : Ieee.single.order n 0 = none := by
        have : Ieee.single.read n = .nan false (n - 2139095040) := by
          unfold Ieee.Format.read
          rw [sgn_eq, bin_eq, inf_eq]
          have e1 : n / 2147483648 = 0 := Nat.div_eq_of_lt (by omega)
          have e2 : n % 2147483648 = n := Nat.mod_eq_of_lt (by omega)
          simp only [e1, e2]
          rw [if_neg (by omega), if_neg (by omega), if_neg (by omega)]
          rfl
        unfold Ieee.Format.order
        rw [this]
        rfl
      rw [this, decide_eq_false (by omega)]
      rfl
    · rw [order_cost h2 (by omega)]
      rcases Nat.eq_zero_or_pos n with rfl | hp
      · rfl
      · rw [Nat.compare_eq_gt.2 hp, decide_eq_false (by omega)]
        rfl
  · subst h1
    rfl
  · rw [decide_eq_false (by omega)]
    have e1 : n / 2147483648 = 1 := by omega
    obtain ⟨r, hr⟩ : ∃ r, n % 2147483648 = r := ⟨_, rfl⟩
    have hr0 : 0 < r := by omega
    have h0 : Ieee.single.read 0 = .number false 0 Ieee.single.leastPlace := rfl
    have hz : ∀ (m up k : Nat), 0 < m → (some (compare (Ieee.signed true m up) (Ieee.signed false 0 k)) == some Ordering.eq) = false := by
      intro m up k hm
      have hs : Ieee.signed true m up < 0 := by
        show -((m <<< up : Nat) : Int) < 0
        have := Nat.mul_pos hm (Nat.two_pow_pos up)
        rw [← Nat.shiftLeft_eq] at this
        omega
      rw [signed_false, cmp_lt (by simpa using hs)]
      rfl
    unfold Ieee.Format.order
    rw [h0]
    unfold Ieee.Format.read
    rw [sgn_eq, bin_eq, inf_eq]
    simp only [e1, hr]
    split
    · exact hz _ _ _ hr0
    · split
      · exact hz _ _ _ (by omega)
      · split
        · rfl
        · rfl
set_option maxRecDepth 100000 in
set_option maxHeartbeats 4000000 in
theorem admit_calls (n : Nat) (w : World) (h : n < 4294967296) : Calls Tryz.prog 46 #[.int .u32 (n : Int)] w fun e w' => e = .returned (.tuple #[.float .f32 (if admOk n then admB n else 0), .int .i64 (if admOk n then 0 else 7)]) ∧ w' = w := by
  have hq := frombits_run n w
  have HC := Lib.hid (cost_calls n w)
  have h0 := order_zero h
  rw [Int.toNat_natCast] at hq
  by_cases hz : n = 0 ∨ n = 2147483648
  · rw [decide_eq_true hz] at h0
    have ho : admOk n = true := decide_eq_true (by omega)
    have hb : admB n = 0 := by
      rcases hz with rfl | rfl <;> rfl
    rw [ho, hb]
    clear hz ho hb h
    go_enter Tryz.func46, Tryz.ntmps46
    go_wp2
    go_ret2
    exact ⟨rfl, rfl⟩
  · rw [decide_eq_false hz] at h0
    have hb : admB n = n := if_neg (fun e => hz (.inr e))
    rw [hb]
    by_cases h1 : n ≤ 2139095040
    · rw [decide_eq_true h1] at HC
      by_cases h2 : n = 2139095040
      · subst h2
        have hq2 := frombits_run 2139095040 w
        have e2 : (2139095040 : Int).toNat = 2139095040 := rfl
        rw [e2] at hq2
        clear hz h1 hb h hq e2
        go_enter Tryz.func46, Tryz.ntmps46
        go_wp2_with fail
        refine HC.out.mono ?_
        rintro e w1 ⟨rfl, rfl⟩
        go_wp2
        go_ret2
        exact ⟨rfl, rfl⟩
      · have ho : admOk n = true := decide_eq_true (by omega)
        rw [ho]
        have h3 : ((n : Int) == 2139095040) = false := by simp; omega
        have h4 : ¬ (n : Int) = 2139095040 := by omega
        clear hz h1 ho hb h h2
        go_enter Tryz.func46, Tryz.ntmps46
        go_wp2_with fail
        refine HC.out.mono ?_
        rintro e w1 ⟨rfl, rfl⟩
        go_wp2
        go_ret2
        exact ⟨rfl, rfl⟩
    · rw [decide_eq_false h1] at HC
      have ho : admOk n = false := decide_eq_false (by omega)
      rw [ho]
      clear hz h1 ho hb h
      go_enter Tryz.func46, Tryz.ntmps46
      go_wp2_with fail
      refine HC.out.mono ?_
      rintro e w1 ⟨rfl, rfl⟩
      go_wp2
      go_ret2
      exact ⟨rfl, rfl⟩
end Go.Proofs.YtgihncjllelonaaGreat.Wt
