/- heap.Heap[int, int]: down. -/
import Derived.Test.YthlmffjafeodlaaHp3
namespace Go.Proofs.Ythlmffjafeodlaa.Hp
open Go Go.RowKit Go.Proofs.Ythlmffjafeodlaa.Mem Go.Proofs.Ythlmffjafeodlaa.Hq Go.Proofs.YthlmffjafeodlaaW.PrintWords Go.Proofs.YthlmffjafeodlaaW.PrintLast
attribute [local go_sem ↓] Go.wp_at_zero Go.wp_at_succ
set_option linter.unusedSimpArgs false
set_option linter.unusedVariables false

/-- The least of i and its first j kids. -/
def lstN (its : List Itm) (i : Nat) : Nat → Nat
  | 0 => i
  | j + 1 => if 2 * i + 1 + j < its.length ∧ aheadI (its.getD (2 * i + 1 + j) z) (its.getD (lstN its i j) z) = true then 2 * i + 1 + j else lstN its i j
theorem lstN_two (its : List Itm) (i : Nat) : lstN its i 2 = leastS its i := rfl
theorem lstN_lt {its : List Itm} {i : Nat} (h : i < its.length) : ∀ j, lstN its i j < its.length
  | 0 => h
  | j + 1 => by
    have := lstN_lt h j
    rw [lstN]
    split <;> omega

def DownRel (w : World) (base hb mb n : Nat) (iv : Value) (came : Int) (R : List Itm) (k : Nat) (v : Value) (w' : World) : Prop :=
  ∃ its i, its.length = n ∧ downS k its i = some R ∧ v = .int .i64 ((i : Nat) : Int) ∧ Hp w' base hb mb iv its came ∧ HK hb mb iv w w'

def KidRel (w : World) (base hb mb : Nat) (iv : Value) (came : Int) (its : List Itm) (i : Nat) (k : Nat) (v4 v15 : Value) (w' : World) : Prop :=
  ∃ j : Nat, j + k = 2 ∧ v15 = .int .i64 (j : Int) ∧ v4 = .int .i64 ((lstN its i j : Nat) : Int) ∧ Hp w' base hb mb iv its came ∧ HK hb mb iv w w'

theorem idx0 (u v : Value) (w : World) : (Instr.index 104 (.agg #[u, v]) (.int .i64 0)).run Try.prog w = .ok u w := by kernel_rfl
theorem idx1 (u v : Value) (w : World) : (Instr.index 104 (.agg #[u, v]) (.int .i64 1)).run Try.prog w = .ok v w := by kernel_rfl

set_option maxHeartbeats 4000000 in
set_option maxRecDepth 100000 in
theorem down_calls (w : World) (base hb mb i k : Nat) (iv : Value) (its R : List Itm) (came : Int) (h : Hp w base hb mb iv its came) (hR : downS k its i = some R) :
    Calls Try.prog 49 #[.pointer (some ⟨hb, 0, none⟩), .int .i64 (i : Int)] w fun e w' => e = .returned (.tuple #[]) ∧ Hp w' base hb mb iv R came ∧ HK hb mb iv w w' := by
  obtain ⟨A, cp, rfl⟩ := own_slice h.own
  obtain ⟨n, hn⟩ : ∃ n, its.length = n := ⟨_, rfl⟩
  rw [hn] at h ⊢
  have HS := Lib.hid (And.intro hn (And.intro hR h))
  clear hR h hn
  go_enter Try.func49, Try.ntmps49
  go_wp2_with fail
  go_loopg [1] k (fun kq v1 w' => Hid (DownRel w base hb mb n (.slice A n cp) came R kq v1 w'))
  case atStart => exact Lib.hid ⟨its, i, HS.out.1, HS.out.2.1, rfl, HS.out.2.2, HK.refl _ _ _ _⟩
  case round =>
    clear HS
    obtain ⟨its, i, hn, hR, rfl, hp, hk⟩ := hrel.out
    clear hrel
    cases gk with
    | zero => simp [downS] at hR
    | succ k1 =>
      rw [downS] at hR
      by_cases hi : i < its.length ∧ its.length < 1000000
      · rw [if_pos hi] at hR
        obtain ⟨c0, hc0⟩ : ∃ c, 2 * i + 1 + 0 = c := ⟨_, rfl⟩
        obtain ⟨c1, hc1⟩ : ∃ c, 2 * i + 1 + 1 = c := ⟨_, rfl⟩
        have e1 : wrap64 (2 * (i : Int)) = 2 * (i : Int) := by unfold wrap64; omega
        have e2 : wrap64 (2 * (i : Int) + 1) = (c0 : Int) := by unfold wrap64; omega
        have e3 : wrap64 (2 * (i : Int) + 2) = (c1 : Int) := by unfold wrap64; omega
        have HP := Lib.hid hp
        have HKK := Lib.hid hk
        have HR := Lib.hid hR
        have HI := Lib.hid hi
        have HC := Lib.hid (And.intro hc0 hc1)
        have HN := Lib.hid hn
        clear hp hk hR hi hc0 hc1 hn
        go_wp2_with fail
        clear e1 e2 e3
        go_loopg [4, 15] 2 (fun kq v4 v15 w' => Hid (KidRel w base hb mb (.slice A n cp) came its i kq v4 v15 w'))
        case atStart => exact Lib.hid ⟨0, rfl, rfl, rfl, HP.out, HKK.out⟩
        case round =>
          clear HP HKK
          obtain ⟨j, hj, rfl, rfl, hp, hk⟩ := hrel.out
          clear hrel
          have d1 := hp.hat.cell 1 rfl
          have HP2 := Lib.hid hp
          have HK2 := Lib.hid hk
          clear hp hk
          match j, gk with
          | 0, gk =>
            obtain rfl : gk = 2 := by omega
            clear hj
            have hix := idx0 (.int .i64 (c0 : Int)) (.int .i64 (c1 : Int)) wr
            obtain ⟨l, hl4⟩ : ∃ l, lstN its i 0 = l := ⟨_, rfl⟩
            have hll : l < its.length := hl4 ▸ lstN_lt HI.out.1 0
            have hnx : lstN its i (0 + 1) = if c0 < its.length ∧ aheadI (its.getD c0 z) (its.getD l z) = true then c0 else l := by rw [lstN, hl4, show 2 * i + 1 + 0 = c0 from HC.out.1]
            rw [hl4]
            obtain ⟨b, hb'⟩ : ∃ b, its[l]? = some b := ⟨_, List.getElem?_eq_getElem hll⟩
            have HL4 := Lib.hid hl4
            clear hl4
            by_cases hc : c0 < its.length
            · obtain ⟨a, ha⟩ : ∃ a, its[c0]? = some a := ⟨_, List.getElem?_eq_getElem hc⟩
              rw [getD_of ha, getD_of hb'] at hnx
              have HA := Lib.hid (And.intro ha hb')
              have hcn : (c0 : Int) < (n : Int) := by have := HN.out; omega
              have HNX := Lib.hid hnx
              have HLL := Lib.hid hll
              have HCC := Lib.hid hc
              clear ha hb' hnx hll hc
              go_wp2_with fail
              refine (ahead_calls _ base hb mb c0 l (.slice A n cp) its came a b HP2.out HA.out.1 HA.out.2 (by have := HI.out.2; omega)).mono ?_
              rintro e w1 ⟨rfl, hb1⟩
              have HP3 := Lib.hid (HP2.out.below hb1)
              have HK3 := Lib.hid (HK2.out.below hb1)
              clear hb1 HP2 HK2
              by_cases hah : aheadI a b = true
              · have hq : lstN its i (0 + 1) = c0 := by rw [HNX.out, if_pos ⟨HCC.out, hah⟩]
                have HQ := Lib.hid hq
                clear hq
                go_wp2_with fail
                go_roundg 1
                case measure => omega
                case rel => exact Lib.hid ⟨0 + 1, rfl, rfl, by rw [HQ.out], HP3.out, HK3.out⟩
              · have hq : lstN its i (0 + 1) = l := by rw [HNX.out, if_neg (fun h => hah h.2)]
                have hah : aheadI a b = false := by simpa using hah
                have HQ := Lib.hid hq
                clear hq
                go_wp2_with fail
                go_roundg 1
                case measure => omega
                case rel => exact Lib.hid ⟨0 + 1, rfl, rfl, by rw [HQ.out], HP3.out, HK3.out⟩
            · have hq : lstN its i (0 + 1) = l := by rw [hnx, if_neg (fun h => hc h.1)]
              have hcn : ¬ (c0 : Int) < (n : Int) := by have := HN.out; omega
              have HQ := Lib.hid hq
              clear hq hnx hb' hll hc
              go_wp2_with fail
              go_roundg 1
              case measure => omega
              case rel => exact Lib.hid ⟨0 + 1, rfl, rfl, by rw [HQ.out], HP2.out, HK2.out⟩
          | 1, gk =>
            obtain rfl : gk = 1 := by omega
            clear hj
            have hix := idx1 (.int .i64 (c0 : Int)) (.int .i64 (c1 : Int)) wr
            obtain ⟨l, hl4⟩ : ∃ l, lstN its i 1 = l := ⟨_, rfl⟩
            have hll : l < its.length := hl4 ▸ lstN_lt HI.out.1 1
            have hnx : lstN its i (1 + 1) = if c1 < its.length ∧ aheadI (its.getD c1 z) (its.getD l z) = true then c1 else l := by rw [lstN, hl4, show 2 * i + 1 + 1 = c1 from HC.out.2]
            rw [hl4]
            obtain ⟨b, hb'⟩ : ∃ b, its[l]? = some b := ⟨_, List.getElem?_eq_getElem hll⟩
            have HL4 := Lib.hid hl4
            clear hl4
            by_cases hc : c1 < its.length
            · obtain ⟨a, ha⟩ : ∃ a, its[c1]? = some a := ⟨_, List.getElem?_eq_getElem hc⟩
              rw [getD_of ha, getD_of hb'] at hnx
              have HA := Lib.hid (And.intro ha hb')
              have hcn : (c1 : Int) < (n : Int) := by have := HN.out; omega
              have HNX := Lib.hid hnx
              have HLL := Lib.hid hll
              have HCC := Lib.hid hc
              clear ha hb' hnx hll hc
              go_wp2_with fail
              refine (ahead_calls _ base hb mb c1 l (.slice A n cp) its came a b HP2.out HA.out.1 HA.out.2 (by have := HI.out.2; omega)).mono ?_
              rintro e w1 ⟨rfl, hb1⟩
              have HP3 := Lib.hid (HP2.out.below hb1)
              have HK3 := Lib.hid (HK2.out.below hb1)
              clear hb1 HP2 HK2
              by_cases hah : aheadI a b = true
              · have hq : lstN its i (1 + 1) = c1 := by rw [HNX.out, if_pos ⟨HCC.out, hah⟩]
                have HQ := Lib.hid hq
                clear hq
                go_wp2_with fail
                go_roundg 0
                case measure => omega
                case rel => exact Lib.hid ⟨1 + 1, rfl, rfl, by rw [HQ.out], HP3.out, HK3.out⟩
              · have hq : lstN its i (1 + 1) = l := by rw [HNX.out, if_neg (fun h => hah h.2)]
                have hah : aheadI a b = false := by simpa using hah
                have HQ := Lib.hid hq
                clear hq
                go_wp2_with fail
                go_roundg 0
                case measure => omega
                case rel => exact Lib.hid ⟨1 + 1, rfl, rfl, by rw [HQ.out], HP3.out, HK3.out⟩
            · have hq : lstN its i (1 + 1) = l := by rw [hnx, if_neg (fun h => hc h.1)]
              have hcn : ¬ (c1 : Int) < (n : Int) := by have := HN.out; omega
              have HQ := Lib.hid hq
              clear hq hnx hb' hll hc
              go_wp2_with fail
              go_roundg 0
              case measure => omega
              case rel => exact Lib.hid ⟨1 + 1, rfl, rfl, by rw [HQ.out], HP2.out, HK2.out⟩
          | j + 2, gk =>
            obtain rfl : j = 0 := by omega
            obtain rfl : gk = 0 := by omega
            clear hj d1
            obtain ⟨l, hl⟩ : ∃ l, lstN its i 2 = l := ⟨_, rfl⟩
            have hl2 := hl
            rw [lstN_two] at hl2
            have hR := HR.out
            rw [hl2] at hR
            have hll : l < its.length := hl2 ▸ leastS_lt HI.out.1
            rw [show 0 + 2 = 2 from rfl, hl]
            clear hl hl2 HR
            by_cases hli : l = i
            · rw [if_pos hli] at hR
              obtain rfl := Option.some.inj hR
              have e5 : ((l : Int) == (i : Int)) = true := by simp [hli]
              have e6 : (l : Int) = (i : Int) := by rw [hli]
              clear hR hll hli
              go_wp2_with fail
              first | go_end0 | ((try simp only [Exit.inBlock, Exit.then]); refine bodyPost_ret (results_none rfl _ _ _) rfl ?_)
              exact ⟨rfl, HP2.out, HK2.out⟩
            · rw [if_neg hli] at hR
              have e5 : ((l : Int) == (i : Int)) = false := beq_eq_false_iff_ne.2 (by omega)
              have e6 : ¬ ((l : Int) = (i : Int)) := by omega
              obtain ⟨a, ha⟩ : ∃ a, its[i]? = some a := ⟨_, List.getElem?_eq_getElem HI.out.1⟩
              obtain ⟨b, hb'⟩ : ∃ b, its[l]? = some b := ⟨_, List.getElem?_eq_getElem hll⟩
              have HR := Lib.hid hR
              have HA := Lib.hid (And.intro ha hb')
              clear hR hll hli ha hb'
              go_wp2_with fail
              refine (swap_calls _ base hb mb i l (.slice A n cp) its came a b HP2.out HA.out.1 HA.out.2 (by have := HI.out.2; omega)).mono ?_
              rintro e w1 ⟨rfl, hp1, hk1⟩
              have HP3 := Lib.hid hp1
              have HK3 := Lib.hid (HK2.out.trans hk1)
              clear hp1 hk1 HP2 HK2
              go_wp2_with fail
              go_roundg k1
              case measure => omega
              case rel => exact Lib.hid ⟨swapL its i l, l, by rw [swapL_length]; exact HN.out, HR.out, rfl, HP3.out, HK3.out⟩
      · rw [if_neg hi] at hR; cases hR

end Go.Proofs.Ythlmffjafeodlaa.Hp
