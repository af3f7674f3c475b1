/- The references' Comp. -/
import Derived.Test.YthlmffjafeodlaaLw0
namespace Go.Proofs.Ythlmffjafeodlaa.Lw
open Go Go.RowKit Go.Proofs.Ythlmffjafeodlaa.Mem Go.Proofs.Ythlmffjafeodlaa.Sl Go.Proofs.YthlmffjafeodlaaW.PrintWords Go.Proofs.YthlmffjafeodlaaW.PrintLast
attribute [local go_sem ↓] Go.wp_at_zero Go.wp_at_succ
set_option linter.unusedSimpArgs false
set_option linter.unusedVariables false

theorem compI_at {ls : List (List Int)} {x : Int} {j : Nat} (hj : j < ls.length) (hno : ∀ i (h : i < ls.length), i < j → (ls[i]).contains x = false) (h : (ls[j]).contains x = true) : compI ls x = (j : Int) := by
  have : ls.findIdx? (·.contains x) = some j := by
    rw [List.findIdx?_eq_some_iff_getElem]
    exact ⟨hj, h, fun i hi => by simpa using hno i (by omega) hi⟩
  rw [compI, this]
theorem compI_none {ls : List (List Int)} {x : Int} (hno : ∀ i (h : i < ls.length), (ls[i]).contains x = false) : compI ls x = -1 := by
  have : ls.findIdx? (·.contains x) = none := by
    rw [List.findIdx?_eq_none_iff]
    intro r hr
    obtain ⟨i, hi, rfl⟩ := List.mem_iff_getElem.1 hr
    exact hno i hi
  rw [compI, this]

set_option maxHeartbeats 4000000 in
set_option maxRecDepth 100000 in
theorem comp_calls (w : World) (A : Option Addr) (ca : Nat) (ls : List (List Int)) (x : Int) (ha : RdL w A ls) (hn : ls.length ≤ 1000000) (hr : ∀ r ∈ ls, r.length ≤ 1000000) :
    Calls Try.prog 12 #[.slice A ls.length ca, .int .i64 x] w fun e w' => e = .returned (.int .i64 (compI ls x)) ∧ w' = w := by
  obtain ⟨n, hna⟩ : ∃ n, ls.length = n := ⟨_, rfl⟩
  rw [hna] at hn ⊢
  have HA := Lib.hid ha
  have HL := Lib.hid hna
  have HRL := Lib.hid hr
  clear ha hna hr
  go_enter Try.func12, Try.ntmps12
  go_wp2_with fail
  go_loopg [5] n (fun kq v5 w' => ∃ j : Nat, v5 = .int .i64 (j : Int) ∧ w' = w ∧ Hid (j + kq = n ∧ ∀ i (h : i < ls.length), i < j → (ls[i]).contains x = false))
  case atStart => exact ⟨0, rfl, rfl, Lib.hid ⟨by omega, fun i h hi => by omega⟩⟩
  case round =>
    obtain ⟨j, rfl, rfl, hI⟩ := hrel
    obtain ⟨hjk, hno⟩ := hI.out
    clear hI
    have hla := HL.out
    by_cases hj : j < n
    · have hja : j < ls.length := by omega
      obtain ⟨r, hr⟩ : ∃ r, ls[j]'hja = r := ⟨_, rfl⟩
      obtain ⟨ba, B, c, rfl, hcx, hrd⟩ := HA.out j r (by rw [List.getElem?_eq_getElem hja, hr])
      have hrl : r.length ≤ 1000000 := HRL.out r (hr ▸ List.getElem_mem hja)
      obtain ⟨k1, rfl⟩ : ∃ k1, gk = k1 + 1 := ⟨gk - 1, by omega⟩
      have j0 : (0 : Int) ≤ (j : Int) := by omega
      have j1 : (j : Int) < (n : Int) := by omega
      have j2 : (n : Int) ≤ 1000000 := by omega
      have j3 : wrap64 ((j : Int) + 1) = (j : Int) + 1 := by unfold wrap64; omega
      have hcall := in_calls wr B c r x hrd hrl
      obtain ⟨ans, hans⟩ : ∃ ans, r.contains x = ans := ⟨_, rfl⟩
      rw [hans] at hcall
      have HC := Lib.hid hcall
      cases ans with
      | true =>
        have hc := compI_at hja hno (by rw [hr, hans])
        have HCI := Lib.hid hc
        clear hc hno hr hjk hla hja hcall hans hrd hrl
        go_wp2_with fail
        refine HC.out.mono ?_
        rintro e w1 ⟨rfl, rfl⟩
        go_wp2_with fail
        go_ret
        exact ⟨by rw [HCI.out]; rfl, rfl⟩
      | false =>
        have hno2 : ∀ i (h : i < ls.length), i < j + 1 → (ls[i]).contains x = false := by
          intro i h hi
          rcases Nat.lt_or_ge i j with h1 | h1
          · exact hno i h h1
          · have : i = j := by omega
            subst this
            rw [hr, hans]
        have HS := Lib.hid (And.intro hjk hno2)
        clear hno hno2 hr hjk hla hja hcall hans hrd hrl
        go_wp2_with fail
        refine HC.out.mono ?_
        rintro e w1 ⟨rfl, rfl⟩
        go_wp2_with fail
        go_roundg k1
        case measure => omega
        case rel => exact ⟨j + 1, by go_num, rfl, Lib.hid ⟨by have := HS.out.1; omega, HS.out.2⟩⟩
    · have hc : compI ls x = -1 := compI_none (fun i h => hno i h (by omega))
      have j0 : (n : Int) ≤ (j : Int) := by omega
      have HC := Lib.hid hc
      clear hc hno hjk hj hla
      go_wp2_with fail
      go_ret
      exact ⟨by rw [HC.out]; rfl, rfl⟩

end Go.Proofs.Ythlmffjafeodlaa.Lw
