/- heap.Heap[int, int]: up. -/
import Derived.Test.YthlmffjafeodlaaHp2
namespace Go.Proofs.Ythlmffjafeodlaa.Hp
open Go Go.RowKit Go.Proofs.Ythlmffjafeodlaa.Mem Go.Proofs.Ythlmffjafeodlaa.Hq Go.Proofs.YthlmffjafeodlaaW.PrintWords Go.Proofs.YthlmffjafeodlaaW.PrintLast
attribute [local go_sem ↓] Go.wp_at_zero Go.wp_at_succ
set_option linter.unusedSimpArgs false
set_option linter.unusedVariables false

def UpRel (w : World) (base hb mb : Nat) (iv : Value) (came : Int) (R : List Itm) (k : Nat) (v : Value) (w' : World) : Prop :=
  ∃ its i, upS k its i = some R ∧ its.length ≤ 1000000 ∧ v = .int .i64 ((i : Nat) : Int) ∧ Hp w' base hb mb iv its came ∧ HK hb mb iv w w'

set_option maxHeartbeats 4000000 in
set_option maxRecDepth 100000 in
theorem up_calls (w : World) (base hb mb i k : Nat) (iv : Value) (its R : List Itm) (came : Int) (h : Hp w base hb mb iv its came) (hl : its.length ≤ 1000000) (hR : upS k its i = some R) :
    Calls Try.prog 37 #[.pointer (some ⟨hb, 0, none⟩), .int .i64 (i : Int)] w fun e w' => e = .returned (.tuple #[]) ∧ Hp w' base hb mb iv R came ∧ HK hb mb iv w w' := by
  have HS := Lib.hid (And.intro hR (And.intro hl h))
  clear hR hl h
  go_enter Try.func37, Try.ntmps37
  go_wp2_with fail
  go_loopg [1] k (fun kq v1 w' => Hid (UpRel w base hb mb iv came R kq v1 w'))
  case atStart => exact Lib.hid ⟨its, i, HS.out.1, HS.out.2.1, rfl, HS.out.2.2, HK.refl _ _ _ _⟩
  case round =>
    clear HS
    obtain ⟨its, i, hR, hl, rfl, hp, hk⟩ := hrel.out
    clear hrel
    cases gk with
    | zero => simp [upS] at hR
    | succ k1 =>
      rw [upS] at hR
      by_cases hi : i < its.length
      · rw [if_pos hi] at hR
        by_cases h0 : 0 < i
        · rw [if_pos h0] at hR
          obtain ⟨a, ha⟩ : ∃ a, its[i]? = some a := ⟨_, List.getElem?_eq_getElem hi⟩
          obtain ⟨p, hpq⟩ : ∃ p, (i - 1) / 2 = p := ⟨_, rfl⟩
          obtain ⟨b, hb'⟩ : ∃ b, its[p]? = some b := ⟨_, List.getElem?_eq_getElem (by omega)⟩
          rw [hpq, getD_of ha, getD_of hb'] at hR
          have e1 : decide ((i : Int) > 0) = true := by simpa using h0
          have e2 : wrap64 ((i : Int) - 1) = (i : Int) - 1 := by unfold wrap64; omega
          have e3 : wrap64 (((i : Int) - 1).tdiv 2) = (p : Int) := by rw [Int.tdiv_eq_ediv_of_nonneg (by omega)]; unfold wrap64; omega
          have HP := Lib.hid hp
          have HKK := Lib.hid hk
          have HR := Lib.hid hR
          have HI := Lib.hid (And.intro hi (And.intro hl (And.intro ha hb')))
          clear hp hk hR hi hl ha hb' hpq e1
          go_wp2_with fail
          refine (ahead_calls _ base hb mb i p iv its came a b HP.out HI.out.2.2.1 HI.out.2.2.2 HI.out.2.1).mono ?_
          rintro e w1 ⟨rfl, hb1⟩
          have HB1 := Lib.hid hb1
          clear hb1
          by_cases hah : aheadI a b = true
          · have HP1 := Lib.hid (HP.out.below HB1.out)
            have HK1 := Lib.hid (HKK.out.below HB1.out)
            have hR := HR.out
            rw [if_pos hah] at hR
            have HR1 := Lib.hid hR
            clear hR HR HP HKK HB1
            go_wp2_with fail
            refine (swap_calls _ base hb mb i p iv its came a b HP1.out HI.out.2.2.1 HI.out.2.2.2 HI.out.2.1).mono ?_
            rintro e w2 ⟨rfl, hp2, hk2⟩
            have HP2 := Lib.hid hp2
            have HK2 := Lib.hid (HK1.out.trans hk2)
            clear hp2 hk2 HP1 HK1
            go_wp2_with fail
            go_roundg k1
            case measure => omega
            case rel => exact Lib.hid ⟨swapL its i p, p, HR1.out, by rw [swapL_length]; exact HI.out.2.1, by rw [e3], HP2.out, HK2.out⟩
          · have hR := HR.out
            rw [if_neg hah] at hR
            obtain rfl := Option.some.inj hR
            have HP1 := Lib.hid (HP.out.below HB1.out)
            have HK1 := Lib.hid (HKK.out.below HB1.out)
            have hah : aheadI a b = false := by simpa using hah
            clear hR HR HP HKK HB1
            go_wp2_with fail
            go_end0
            exact ⟨rfl, HP1.out, HK1.out⟩
        · rw [if_neg h0] at hR
          obtain rfl := Option.some.inj hR
          have HP1 := Lib.hid hp
          have HK1 := Lib.hid hk
          clear hR hp hk hi hl
          go_wp2_with fail
          go_end0
          exact ⟨rfl, HP1.out, HK1.out⟩
      · rw [if_neg hi] at hR; cases hR

end Go.Proofs.Ythlmffjafeodlaa.Hp
