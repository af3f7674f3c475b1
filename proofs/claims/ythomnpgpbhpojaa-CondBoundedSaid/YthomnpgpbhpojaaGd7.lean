/- The references' small functions: SameInts, SameLists, in, Comp. -/
import Derived.Test.YthomnpgpbhpojaaGd3
import Derived.Test.YthomnpgpbhpojaaGd4
import Derived.Test.YthomnpgpbhpojaaGd6
import Derived.Deep.RegionHeld3
import Derived.Deep.DrawnRows
import Derived.Deep.LoopGhost
import Derived.Deep.DeepCutAuto
import Derived.BigRegion
import Derived.Outline
import Derived.WalkLawsBesides
import Derived.WalkSpells
import Derived.Lib.Hide
import Derived.Maps.AppendAt
import Derived.Deep.OwnRows
import Derived.Deep.RegionWith
import Derived.Great.BuildSlice
import Derived.Test.YthomnpgpbhpojaaGd2
import Derived.LaidEqlPtr
namespace Go.Proofs.Ythomnpgpbhpojaa.Lw
open Go Go.RowKit Go.Proofs.Ythomnpgpbhpojaa.Mem Go.Proofs.Ythomnpgpbhpojaa.Sl Go.Proofs.YthomnpgpbhpojaaW.PrintWords Go.Proofs.YthomnpgpbhpojaaW.PrintLast
attribute [local go_sem ↓] Go.wp_at_zero Go.wp_at_succ
set_option linter.unusedSimpArgs false
set_option linter.unusedVariables false

def RdL (w : World) (A : Option Addr) (ls : List (List Int)) : Prop := ∀ (i : Nat) (r : List Int), ls[i]? = some r → ∃ b B c, A = some ⟨b, 0, none⟩ ∧ w.cell? ⟨b, i, none⟩ = some (.slice B r.length c) ∧ RdI w B r
theorem RdL.below {w w' : World} {A : Option Addr} {ls : List (List Int)} (h : RdL w A ls) (hb : Below w.heap.size w w') : RdL w' A ls := fun i r hr => by
  obtain ⟨b, B, c, h1, h2, h3⟩ := h i r hr
  exact ⟨b, B, c, h1, (hb.cell (p := ⟨b, i, none⟩) (World.block_lt_of_cell? w _ h2)).trans h2, h3.below hb⟩
theorem RdI.drewN {w : World} {A : Option Addr} {l : List Int} (h : RdI w A l) (k : Nat) : RdI (w.drewN k) A l := h
theorem RdL.drewN {w : World} {A : Option Addr} {ls : List (List Int)} (h : RdL w A ls) (k : Nat) : RdL (w.drewN k) A ls := h

theorem eq_snoc {α : Type} {a b : List α} {j : Nat} (ha : j < a.length) (hb : j < b.length) (h : a.take j = b.take j) (he : a[j] = b[j]) : a.take (j + 1) = b.take (j + 1) := by
  rw [List.take_add_one, List.take_add_one, h, List.getElem?_eq_getElem ha, List.getElem?_eq_getElem hb, he]

def tb15_6.T6 : Bool × List (List Nat × List Nat) := (true, [([], []), ([], []), ([0, 1], [0, 1]), ([2], [2]), ([], []), ([], []), ([4, 5], [4, 5]), ([6], [6]), ([3, 7], [3, 7])])
def tb15_6.B6 : List Nat := [0, 0, 3, 7, 0, 0, 48, 112, 255]
theorem tb15_6.tab6 : rtab .any (opsOf Try.f15 6) = tb15_6.T6 := by kernel_rfl
theorem tb15_6.bits6 : waitsOk tb15_6.T6.2 tb15_6.B6 = true := by kernel_rfl
set_option maxHeartbeats 4000000 in
set_option maxRecDepth 100000 in
theorem sameInts_calls (w : World) (A B : Option Addr) (ca cb : Nat) (a b : List Int) (ha : RdI w A a) (hb : RdI w B b) (hn : a.length ≤ 1000000) :
    Calls Try.prog 15 #[.slice A a.length ca, .slice B b.length cb] w fun e w' => e = .returned (.bool (decide (a = b))) ∧ ∃ q, w' = w.drewN q := by
  by_cases hl : a.length = b.length
  · rw [← hl]
    obtain ⟨n, hna⟩ : ∃ n, a.length = n := ⟨_, rfl⟩
    rw [hna] at hn ⊢
    have e1 : ((n : Int) == (n : Int)) = true := by simp
    have e2 : ((n : Int) != (n : Int)) = false := by rw [bne, e1]; rfl
    have HA := Lib.hid (And.intro ha hb)
    have HL := Lib.hid (And.intro hna (hl.symm.trans hna))
    clear ha hb hna hl
    go_enter Try.func15, Try.ntmps15
    go_wp2
    clear e1 e2
    go_loopg [13] n (fun kq v13 w' => ∃ j : Nat, v13 = .int .i64 (j : Int) ∧ Hid (j + kq = n ∧ a.take j = b.take j ∧ ∃ q, w' = w.drewN q))
    case atStart => exact ⟨0, rfl, Lib.hid ⟨by omega, by simp, 0, rfl⟩⟩
    case round =>
      obtain ⟨j, rfl, hI⟩ := hrel
      obtain ⟨hjk, htk, q, rfl⟩ := hI.out
      clear hI
      have hla := HL.out.1
      have hlb := HL.out.2
      by_cases hj : j < n
      · have hja : j < a.length := by omega
        have hjb : j < b.length := by omega
        obtain ⟨x, hx⟩ : ∃ x, a[j]'hja = x := ⟨_, rfl⟩
        obtain ⟨y, hy⟩ : ∃ y, b[j]'hjb = y := ⟨_, rfl⟩
        obtain ⟨ba, rfl, hcx⟩ := (RdI.drewN HA.out.1 q) j x (by rw [List.getElem?_eq_getElem (by omega), hx])
        obtain ⟨bb, rfl, hcy⟩ := (RdI.drewN HA.out.2 q) j y (by rw [List.getElem?_eq_getElem (by omega), hy])
        obtain ⟨k1, rfl⟩ : ∃ k1, gk = k1 + 1 := ⟨gk - 1, by omega⟩
        have j0 : (0 : Int) ≤ (j : Int) := by omega
        have j1 : (j : Int) < (n : Int) := by omega
        have j2 : (n : Int) ≤ 1000000 := by omega
        by_cases hxy : x = y
        · have e1 : ((x : Int) == y) = true := by rw [hxy]; simp
          have e2 : ((x : Int) != y) = false := by rw [bne, e1]; rfl
          have hs := eq_snoc (a := a) (b := b) (j := j) (by omega) (by omega) htk (by rw [hx, hy, hxy])
          have HS := Lib.hid (And.intro hjk hs)
          clear htk hs hx hy hjk hxy hla hlb
          go_wp2
          refine start_ (n := 9) (S := fun w' => w'.cell? ⟨ba, j, none⟩ = some (.int .i64 x) ∧ w'.cell? ⟨bb, j, none⟩ = some (.int .i64 y)) (ds := []) (bA 9 0) (by kernel_rfl) rfl rfl ⟨hcx, hcy⟩ (fun hHeld => ?_)
          refine with_tabW tb15_6.tab6 tb15_6.bits6 (fun HT_ HW_ => ?_)
          refine pure_ (i := 0) (N := some 16) (v := ?_) (a' := ?_) (bA 9 1) rfl rfl (any_of HT_.out (by kernel_rfl)) (fun _ _ _ h => h) (Or.inl ⟨by rfl, ?_⟩) ?_ ?_
          rotate_left; · intro w'; go_simp; with_reducible rfl
          rotate_left; · simp only [Act.put, pA, pB, pC, pD, pE]; rfl
          refine pure_ (i := 1) (N := some 17) (v := ?_) (a' := ?_) (bA 9 3) rfl rfl (any_of HT_.out (by kernel_rfl)) (fun _ _ _ h => h) (Or.inl ⟨by rfl, ?_⟩) ?_ ?_
          rotate_left; · intro w'; go_simp; with_reducible rfl
          rotate_left; · simp only [Act.put, pA, pB, pC, pD, pE]; rfl
          refine pure_ (i := 2) (N := some 18) (v := ?_) (a' := ?_) (bA 9 7) rfl rfl (any_of HT_.out (by kernel_rfl)) (fun _ _ _ h => h) (Or.inl ⟨by rfl, ?_⟩) ?_ ?_
          rotate_left; · intro w'; go_simp; with_reducible rfl
          rotate_left; · simp only [Act.put, pA, pB, pC, pD, pE]; rfl
          refine pure_ (i := 4) (N := some 20) (v := ?_) (a' := ?_) (bA 9 23) rfl rfl (any_of HT_.out (by kernel_rfl)) (fun _ _ _ h => h) (Or.inl ⟨by rfl, ?_⟩) ?_ ?_
          rotate_left; · intro w'; go_simp; with_reducible rfl
          rotate_left; · simp only [Act.put, pA, pB, pC, pD, pE]; rfl
          refine pure_ (i := 5) (N := some 21) (v := ?_) (a' := ?_) (bA 9 55) rfl rfl (any_of HT_.out (by kernel_rfl)) (fun _ _ _ h => h) (Or.inl ⟨by rfl, ?_⟩) ?_ ?_
          rotate_left; · intro w'; go_simp; with_reducible rfl
          rotate_left; · simp only [Act.put, pA, pB, pC, pD, pE]; rfl
          refine pure_ (i := 6) (N := some 22) (v := ?_) (a' := ?_) (bA 9 119) rfl rfl (any_of HT_.out (by kernel_rfl)) (fun _ _ _ h => h) (Or.inl ⟨by rfl, ?_⟩) ?_ ?_
          rotate_left; · intro w'; go_simp; with_reducible rfl
          rotate_left; · simp only [Act.put, pA, pB, pC, pD, pE]; rfl
          refine take_ (i := 3) (N := some 19) (v := ?_) (a' := ?_) (bA 9 127) rfl rfl (take_ofW HT_.out HW_.out (by kernel_rfl)) (fun _ _ _ h => h) (Or.inl ⟨by rfl, ?_⟩) hHeld ?_ ?_
          rotate_left
          · rintro w' ⟨s0, s1⟩
            go_simp; with_reducible rfl
          rotate_left; · simp only [Act.put, pA, pB, pC, pD, pE]; rfl
          refine take_ (i := 7) (N := some 23) (v := ?_) (a' := ?_) (bA 9 255) rfl rfl (take_ofW HT_.out HW_.out (by kernel_rfl)) (fun _ _ _ h => h) (Or.inl ⟨by rfl, ?_⟩) hHeld ?_ ?_
          rotate_left
          · rintro w' ⟨s0, s1⟩
            go_simp; with_reducible rfl
          rotate_left; · simp only [Act.put, pA, pB, pC, pD, pE]; rfl
          refine pure_ (i := 8) (N := some 24) (v := ?_) (a' := ?_) (bA 9 511) rfl rfl (any_of HT_.out (by kernel_rfl)) (fun _ _ _ h => h) (Or.inl ⟨by rfl, ?_⟩) ?_ ?_
          rotate_left; · intro w'; go_simp; with_reducible rfl
          rotate_left; · simp only [Act.put, pA, pB, pC, pD, pE]; rfl
          refine done_ (done_of HT_.out (by kernel_rfl)) ?_
          clear hHeld HT_ HW_
          go_wp2
          go_roundg k1
          case measure => omega
          case rel => exact ⟨j + 1, by go_num, Lib.hid ⟨by have := HS.out.1; omega, HS.out.2, q + 1, rfl⟩⟩
        · have e1 : ((x : Int) == y) = false := beq_eq_false_iff_ne.2 hxy
          have e2 : ((x : Int) != y) = true := by rw [bne, e1]; rfl
          have hne : decide (a = b) = false := by
            rw [decide_eq_false_iff_not]
            intro he
            subst he
            exact hxy (hx.symm.trans hy)
          have HNE := Lib.hid hne
          clear htk hx hy hjk hla hlb hne
          go_wp2
          refine start_ (n := 9) (S := fun w' => w'.cell? ⟨ba, j, none⟩ = some (.int .i64 x) ∧ w'.cell? ⟨bb, j, none⟩ = some (.int .i64 y)) (ds := []) (bA 9 0) (by kernel_rfl) rfl rfl ⟨hcx, hcy⟩ (fun hHeld => ?_)
          refine with_tabW tb15_6.tab6 tb15_6.bits6 (fun HT_ HW_ => ?_)
          refine pure_ (i := 0) (N := some 16) (v := ?_) (a' := ?_) (bA 9 1) rfl rfl (any_of HT_.out (by kernel_rfl)) (fun _ _ _ h => h) (Or.inl ⟨by rfl, ?_⟩) ?_ ?_
          rotate_left; · intro w'; go_simp; with_reducible rfl
          rotate_left; · simp only [Act.put, pA, pB, pC, pD, pE]; rfl
          refine pure_ (i := 1) (N := some 17) (v := ?_) (a' := ?_) (bA 9 3) rfl rfl (any_of HT_.out (by kernel_rfl)) (fun _ _ _ h => h) (Or.inl ⟨by rfl, ?_⟩) ?_ ?_
          rotate_left; · intro w'; go_simp; with_reducible rfl
          rotate_left; · simp only [Act.put, pA, pB, pC, pD, pE]; rfl
          refine pure_ (i := 2) (N := some 18) (v := ?_) (a' := ?_) (bA 9 7) rfl rfl (any_of HT_.out (by kernel_rfl)) (fun _ _ _ h => h) (Or.inl ⟨by rfl, ?_⟩) ?_ ?_
          rotate_left; · intro w'; go_simp; with_reducible rfl
          rotate_left; · simp only [Act.put, pA, pB, pC, pD, pE]; rfl
          refine pure_ (i := 4) (N := some 20) (v := ?_) (a' := ?_) (bA 9 23) rfl rfl (any_of HT_.out (by kernel_rfl)) (fun _ _ _ h => h) (Or.inl ⟨by rfl, ?_⟩) ?_ ?_
          rotate_left; · intro w'; go_simp; with_reducible rfl
          rotate_left; · simp only [Act.put, pA, pB, pC, pD, pE]; rfl
          refine pure_ (i := 5) (N := some 21) (v := ?_) (a' := ?_) (bA 9 55) rfl rfl (any_of HT_.out (by kernel_rfl)) (fun _ _ _ h => h) (Or.inl ⟨by rfl, ?_⟩) ?_ ?_
          rotate_left; · intro w'; go_simp; with_reducible rfl
          rotate_left; · simp only [Act.put, pA, pB, pC, pD, pE]; rfl
          refine pure_ (i := 6) (N := some 22) (v := ?_) (a' := ?_) (bA 9 119) rfl rfl (any_of HT_.out (by kernel_rfl)) (fun _ _ _ h => h) (Or.inl ⟨by rfl, ?_⟩) ?_ ?_
          rotate_left; · intro w'; go_simp; with_reducible rfl
          rotate_left; · simp only [Act.put, pA, pB, pC, pD, pE]; rfl
          refine take_ (i := 3) (N := some 19) (v := ?_) (a' := ?_) (bA 9 127) rfl rfl (take_ofW HT_.out HW_.out (by kernel_rfl)) (fun _ _ _ h => h) (Or.inl ⟨by rfl, ?_⟩) hHeld ?_ ?_
          rotate_left
          · rintro w' ⟨s0, s1⟩
            go_simp; with_reducible rfl
          rotate_left; · simp only [Act.put, pA, pB, pC, pD, pE]; rfl
          refine take_ (i := 7) (N := some 23) (v := ?_) (a' := ?_) (bA 9 255) rfl rfl (take_ofW HT_.out HW_.out (by kernel_rfl)) (fun _ _ _ h => h) (Or.inl ⟨by rfl, ?_⟩) hHeld ?_ ?_
          rotate_left
          · rintro w' ⟨s0, s1⟩
            go_simp; with_reducible rfl
          rotate_left; · simp only [Act.put, pA, pB, pC, pD, pE]; rfl
          refine pure_ (i := 8) (N := some 24) (v := ?_) (a' := ?_) (bA 9 511) rfl rfl (any_of HT_.out (by kernel_rfl)) (fun _ _ _ h => h) (Or.inl ⟨by rfl, ?_⟩) ?_ ?_
          rotate_left; · intro w'; go_simp; with_reducible rfl
          rotate_left; · simp only [Act.put, pA, pB, pC, pD, pE]; rfl
          refine done_ (done_of HT_.out (by kernel_rfl)) ?_
          clear hHeld HT_ HW_
          go_wp2
          go_ret
          exact ⟨by rw [HNE.out]; rfl, q + 1, rfl⟩
      · have heq : decide (a = b) = true := by
          rw [List.take_of_length_le (by omega), List.take_of_length_le (by omega)] at htk
          simpa using htk
        have j0 : (n : Int) ≤ (j : Int) := by omega
        have HE := Lib.hid heq
        clear heq htk hjk hj hla hlb
        go_wp2
        go_ret
        exact ⟨by rw [HE.out]; rfl, q, rfl⟩
  · have e1 : ((a.length : Int) == (b.length : Int)) = false := beq_eq_false_iff_ne.2 (by omega)
    have e2 : ((a.length : Int) != (b.length : Int)) = true := by rw [bne, e1]; rfl
    have hne : decide (a = b) = false := by
      rw [decide_eq_false_iff_not]
      intro he
      exact hl (by rw [he])
    have HNE := Lib.hid hne
    have HL := Lib.hid hl
    clear ha hb hne hl
    go_enter Try.func15, Try.ntmps15
    go_wp2
    go_ret
    exact ⟨by rw [HNE.out]; rfl, 0, rfl⟩

set_option maxHeartbeats 4000000 in
set_option maxRecDepth 100000 in
theorem in_calls (w : World) (A : Option Addr) (ca : Nat) (a : List Int) (x : Int) (ha : RdI w A a) (hn : a.length ≤ 1000000) :
    Calls Try.prog 64 #[.slice A a.length ca, .int .i64 x] w fun e w' => e = .returned (.bool (a.contains x)) ∧ w' = w := by
  obtain ⟨n, hna⟩ : ∃ n, a.length = n := ⟨_, rfl⟩
  rw [hna] at hn ⊢
  have HA := Lib.hid ha
  have HL := Lib.hid hna
  clear ha hna
  go_enter Try.func64, Try.ntmps64
  go_wp2
  go_loopg [5] n (fun kq v5 w' => ∃ j : Nat, v5 = .int .i64 (j : Int) ∧ w' = w ∧ Hid (j + kq = n ∧ (a.take j).contains x = false))
  case atStart => exact ⟨0, rfl, rfl, Lib.hid ⟨by omega, by simp⟩⟩
  case round =>
    obtain ⟨j, rfl, rfl, hI⟩ := hrel
    obtain ⟨hjk, hno⟩ := hI.out
    clear hI
    have hla := HL.out
    by_cases hj : j < n
    · have hja : j < a.length := by omega
      obtain ⟨y, hy⟩ : ∃ y, a[j]'hja = y := ⟨_, rfl⟩
      obtain ⟨ba, rfl, hcx⟩ := HA.out j y (by rw [List.getElem?_eq_getElem hja, hy])
      obtain ⟨k1, rfl⟩ : ∃ k1, gk = k1 + 1 := ⟨gk - 1, by omega⟩
      have j0 : (0 : Int) ≤ (j : Int) := by omega
      have j1 : (j : Int) < (n : Int) := by omega
      have j2 : (n : Int) ≤ 1000000 := by omega
      have j3 : wrap64 ((j : Int) + 1) = (j : Int) + 1 := by unfold wrap64; omega
      by_cases hxy : y = x
      · have e1 : ((y : Int) == x) = true := by rw [hxy]; simp
        have hc : a.contains x = true := by
          rw [List.contains_iff_mem]
          exact hxy ▸ hy ▸ List.getElem_mem hja
        have HC := Lib.hid hc
        clear hc hno hy hjk hxy hla hja
        go_wp2
        go_ret
        exact ⟨by rw [HC.out]; rfl, rfl⟩
      · have e1 : ((y : Int) == x) = false := beq_eq_false_iff_ne.2 hxy
        have hs : (a.take (j + 1)).contains x = false := by
          rw [List.take_add_one, List.getElem?_eq_getElem hja, hy]
          simp only [Option.toList_some, List.contains_eq_any_beq, List.any_append, List.any_cons, List.any_nil] at *
          rw [hno]
          simp
          exact fun h => hxy h.symm
        have HS := Lib.hid (And.intro hjk hs)
        clear hs hno hy hjk hla hja
        go_wp2
        go_roundg k1
        case measure => omega
        case rel => exact ⟨j + 1, by go_num, rfl, Lib.hid ⟨by have := HS.out.1; omega, HS.out.2⟩⟩
    · have hc : a.contains x = false := by
        rw [List.take_of_length_le (by omega)] at hno
        exact hno
      have j0 : (n : Int) ≤ (j : Int) := by omega
      have HC := Lib.hid hc
      clear hc hno hjk hj hla
      go_wp2
      go_ret
      exact ⟨by rw [HC.out]; rfl, rfl⟩

def compI (ls : List (List Int)) (x : Int) : Int := match ls.findIdx? (·.contains x) with | some i => (i : Int) | none => -1

end Go.Proofs.Ythomnpgpbhpojaa.Lw

/- The references' Comp. -/
namespace Go.Proofs.Ythomnpgpbhpojaa.Lw
open Go Go.RowKit Go.Proofs.Ythomnpgpbhpojaa.Mem Go.Proofs.Ythomnpgpbhpojaa.Sl Go.Proofs.YthomnpgpbhpojaaW.PrintWords Go.Proofs.YthomnpgpbhpojaaW.PrintLast
attribute [local go_sem ↓] Go.wp_at_zero Go.wp_at_succ
set_option linter.unusedSimpArgs false
set_option linter.unusedVariables false

theorem compI_at {ls : List (List Int)} {x : Int} {j : Nat} (hj : j < ls.length) (hno : ∀ i (h : i < ls.length), i < j → (ls[i]).contains x = false) (h : (ls[j]).contains x = true) : compI ls x = (j : Int) := by
  have : ls.findIdx? (·.contains x) = some j := by
    rw [List.findIdx?_eq_some_iff_getElem]
    exact ⟨hj, h, fun i hi => by simpa using hno i (by omega) hi⟩
  rw [compI, this]
theorem compI_none {ls : List (List Int)} {x : Int} (hno : ∀ i (h : i < ls.length), (ls[i]).contains x = false) : compI ls x = -1 := by
  have : ls.findIdx? (·.contains x) = none := by
    rw [List.findIdx?_eq_none_iff]
    intro r hr
    obtain ⟨i, hi, rfl⟩ := List.mem_iff_getElem.1 hr
    exact hno i hi
  rw [compI, this]

set_option maxHeartbeats 4000000 in
set_option maxRecDepth 100000 in
theorem comp_calls (w : World) (A : Option Addr) (ca : Nat) (ls : List (List Int)) (x : Int) (ha : RdL w A ls) (hn : ls.length ≤ 1000000) (hr : ∀ r ∈ ls, r.length ≤ 1000000) :
    Calls Try.prog 53 #[.slice A ls.length ca, .int .i64 x] w fun e w' => e = .returned (.int .i64 (compI ls x)) ∧ w' = w := by
  obtain ⟨n, hna⟩ : ∃ n, ls.length = n := ⟨_, rfl⟩
  rw [hna] at hn ⊢
  have HA := Lib.hid ha
  have HL := Lib.hid hna
  have HRL := Lib.hid hr
  clear ha hna hr
  go_enter Try.func53, Try.ntmps53
  go_wp2_with fail
  go_loopg [5] n (fun kq v5 w' => ∃ j : Nat, v5 = .int .i64 (j : Int) ∧ w' = w ∧ Hid (j + kq = n ∧ ∀ i (h : i < ls.length), i < j → (ls[i]).contains x = false))
  case atStart => exact ⟨0, rfl, rfl, Lib.hid ⟨by omega, fun i h hi => by omega⟩⟩
  case round =>
    obtain ⟨j, rfl, rfl, hI⟩ := hrel
    obtain ⟨hjk, hno⟩ := hI.out
    clear hI
    have hla := HL.out
    by_cases hj : j < n
    · have hja : j < ls.length := by omega
      obtain ⟨r, hr⟩ : ∃ r, ls[j]'hja = r := ⟨_, rfl⟩
      obtain ⟨ba, B, c, rfl, hcx, hrd⟩ := HA.out j r (by rw [List.getElem?_eq_getElem hja, hr])
      have hrl : r.length ≤ 1000000 := HRL.out r (hr ▸ List.getElem_mem hja)
      obtain ⟨k1, rfl⟩ : ∃ k1, gk = k1 + 1 := ⟨gk - 1, by omega⟩
      have j0 : (0 : Int) ≤ (j : Int) := by omega
      have j1 : (j : Int) < (n : Int) := by omega
      have j2 : (n : Int) ≤ 1000000 := by omega
      have j3 : wrap64 ((j : Int) + 1) = (j : Int) + 1 := by unfold wrap64; omega
      have hcall := in_calls wr B c r x hrd hrl
      obtain ⟨ans, hans⟩ : ∃ ans, r.contains x = ans := ⟨_, rfl⟩
      rw [hans] at hcall
      have HC := Lib.hid hcall
      cases ans with
      | true =>
        have hc := compI_at hja hno (by rw [hr, hans])
        have HCI := Lib.hid hc
        clear hc hno hr hjk hla hja hcall hans hrd hrl
        go_wp2_with fail
        refine HC.out.mono ?_
        rintro e w1 ⟨rfl, rfl⟩
        go_wp2_with fail
        go_ret
        exact ⟨by rw [HCI.out]; rfl, rfl⟩
      | false =>
        have hno2 : ∀ i (h : i < ls.length), i < j + 1 → (ls[i]).contains x = false := by
          intro i h hi
          rcases Nat.lt_or_ge i j with h1 | h1
          · exact hno i h h1
          · have : i = j := by omega
            subst this
            rw [hr, hans]
        have HS := Lib.hid (And.intro hjk hno2)
        clear hno hno2 hr hjk hla hja hcall hans hrd hrl
        go_wp2_with fail
        refine HC.out.mono ?_
        rintro e w1 ⟨rfl, rfl⟩
        go_wp2_with fail
        go_roundg k1
        case measure => omega
        case rel => exact ⟨j + 1, by go_num, rfl, Lib.hid ⟨by have := HS.out.1; omega, HS.out.2⟩⟩
    · have hc : compI ls x = -1 := compI_none (fun i h => hno i h (by omega))
      have j0 : (n : Int) ≤ (j : Int) := by omega
      have HC := Lib.hid hc
      clear hc hno hjk hj hla
      go_wp2_with fail
      go_ret
      exact ⟨by rw [HC.out]; rfl, rfl⟩

end Go.Proofs.Ythomnpgpbhpojaa.Lw

/- Appending what can be read to a row of one's own; Cut. -/
namespace Go.Proofs.Ythomnpgpbhpojaa.Lw
open Go Go.RowKit Go.Proofs.Ythomnpgpbhpojaa.Mem Go.Proofs.Ythomnpgpbhpojaa.Sl Go.Proofs.YthomnpgpbhpojaaW.PrintWords Go.Proofs.YthomnpgpbhpojaaW.PrintLast
attribute [local go_sem ↓] Go.wp_at_zero Go.wp_at_succ
set_option linter.unusedSimpArgs false
set_option linter.unusedVariables false

def RdV (w : World) (v : Value) (n size : Nat) (news : List Value) : Prop :=
  news.length = n * size ∧ (∀ u ∈ news, u.oneCell' = true) ∧ ((v = .slice none 0 0 ∧ n = 0) ∨ ∃ ad c, v = .slice (some ad) n c ∧ ∀ j u, news[j]? = some u → w.cell? (ad.add j) = some u)

theorem RdV.below {w w' : World} {v : Value} {n size : Nat} {news : List Value} (h : RdV w v n size news) (hb : Below w.heap.size w w') : RdV w' v n size news := by
  refine ⟨h.1, h.2.1, h.2.2.imp id ?_⟩
  rintro ⟨ad, c, e, hc⟩
  exact ⟨ad, c, e, fun j u hu => (hb.cell (World.block_lt_of_cell? w _ (hc j u hu))).trans (hc j u hu)⟩

theorem run_append_any {P : Program} (w : World) (base : Nat) (t ty e : TypeId) (i : TypeInfo) (z : Value) (size bytes : Nat) (ht : P.underlying t = some (.slice e)) (hi : P.info? e = some i) (hz : i.zero = some z)
    (hsize : i.size = size) (hby : i.bytes = bytes) (hzs : z.cells.size = size) (hsz : 0 < size) (v : Value) (n : Nat) (xs : List Value) (hown : w.ownsRow base e size v n xs)
    (x : Value) (m : Nat) (news : List Value) (hx : RdV w x m size news) (h63 : n + m ≤ maxLen) (hbytes : (n + m) * bytes ≤ 140737488355328) (hbase : base ≤ w.heap.size) :
    ∃ v' w', (Builtin.append_ #[t, t] ty #[v, x]).run P w = .ok v' w' ∧ w'.ownsRow base e size v' (n + m) (xs ++ news) ∧ w.grownBy w' v.ownBlock ∧ (v'.ownBlock = v.ownBlock ∨ v'.ownBlock = some w.heap.size) := by
  obtain ⟨hl, h1, ⟨rfl, rfl⟩ | ⟨ad, c, rfl, hc⟩⟩ := hx
  · have hnil : news = [] := List.length_eq_zero_iff.1 (by omega)
    subst hnil
    refine ⟨v, w, run_append_owned_none (P := P) w base t ty e i size ht hi v n xs hown, ?_, ⟨rfl, rfl, rfl, Nat.le_refl _, fun _ _ _ => rfl⟩, Or.inl rfl⟩
    simpa using hown
  · obtain ⟨v', w', g1, g2, g3, _, g5⟩ := run_append_own_at (P := P) (w := w) base t ty e i z size bytes ht hi hz hsize hby hzs hsz v n xs hown ad m c news hl hc h1 h63 hbytes hbase
    exact ⟨v', w', g1, g2, g3, g5⟩

theorem step_append_any {P : Program} {w : World} {ops : Array Oper} {o : Oper} {a : Act} {K : Act → World → Prop} {Q : Exit → Act → World → Prop} {E : Prop} (hgd : o.guard = none) (s x : Operand) (t : TypeId)
    (ho : o.op = .call { callee := .builtin .append, args := #[s, x], argTypes := #[t, t] })
    (base : Nat) (e : TypeId) (i : TypeInfo) (z : Value) (size bytes : Nat) (ht : P.underlying t = some (.slice e)) (hi : P.info? e = some i) (hz : i.zero = some z)
    (hsize : i.size = size) (hby : i.bytes = bytes) (hzs : z.cells.size = size) (hsz : 0 < size) (v : Value) (n : Nat) (xs : List Value) (hs : a.eval s = v) (hown : w.ownsRow base e size v n xs)
    (xv : Value) (hxv : a.eval x = xv) (m : Nat) (news : List Value) (hx : RdV w xv m size news) (h63 : n + m ≤ maxLen) (hbytes : (n + m) * bytes ≤ 140737488355328) (hbase : base ≤ w.heap.size)
    (h : ∀ v' w', w'.ownsRow base e size v' (n + m) (xs ++ news) → w.grownBy w' v.ownBlock → (v'.ownBlock = v.ownBlock ∨ v'.ownBlock = some w.heap.size) → K (a.put o.dst v') w') :
    if Region.wanted o (yielded ops a.tmps) = true then Oper.wp P o a w K Q else E := by
  have hw : Region.wanted o (yielded ops a.tmps) = true := by simp [Region.wanted, hgd]
  rw [if_pos hw]
  obtain ⟨v', w', hr, h2, h3, h4⟩ := run_append_any (P := P) w base t o.type e i z size bytes ht hi hz hsize hby hzs hsz v n xs hown xv m news hx h63 hbytes hbase
  unfold Oper.wp execOp
  simp only [ho, resolve, invoke, builtin, Sem.run_bind, Sem.run_pure, Result.andThen_ok, List.map_toArray, List.map_cons, List.map_nil, hs, hxv, hr]
  exact h v' w' h2 h3 h4

theorem wpList_append_any {P : Program} {w : World} {ops : Array Oper} {rest : List Oper} {o : Oper} {a : Act} {Q : Exit → Act → World → Prop} (hgd : o.guard = none) (s x : Operand) (t : TypeId)
    (ho : o.op = .call { callee := .builtin .append, args := #[s, x], argTypes := #[t, t] })
    (base : Nat) (e : TypeId) (i : TypeInfo) (z : Value) (size bytes : Nat) (ht : P.underlying t = some (.slice e)) (hi : P.info? e = some i) (hz : i.zero = some z)
    (hsize : i.size = size) (hby : i.bytes = bytes) (hzs : z.cells.size = size) (hsz : 0 < size) (v : Value) (n : Nat) (xs : List Value) (hs : a.eval s = v) (hown : w.ownsRow base e size v n xs)
    (xv : Value) (hxv : a.eval x = xv) (m : Nat) (news : List Value) (hx : RdV w xv m size news) (h63 : n + m ≤ maxLen) (hbytes : (n + m) * bytes ≤ 140737488355328) (hbase : base ≤ w.heap.size)
    (h : ∀ v' w', w'.ownsRow base e size v' (n + m) (xs ++ news) → w.grownBy w' v.ownBlock → (v'.ownBlock = v.ownBlock ∨ v'.ownBlock = some w.heap.size) → wpList P ops Q rest (a.put o.dst v') w') :
    wpList P ops Q (o :: rest) a w := by
  refine wpList_plain hgd fun _ hK => ?_
  obtain ⟨v', w', hr, h2, h3, h4⟩ := run_append_any (P := P) w base t o.type e i z size bytes ht hi hz hsize hby hzs hsz v n xs hown xv m news hx h63 hbytes hbase
  unfold Oper.wp execOp
  simp only [ho, resolve, invoke, builtin, Sem.run_bind, Sem.run_pure, Result.andThen_ok, List.map_toArray, List.map_cons, List.map_nil, hs, hxv, hr]
  exact hK _ _ (h v' w' h2 h3 h4)

end Go.Proofs.Ythomnpgpbhpojaa.Lw

/- Cut. -/
namespace Go.Proofs.Ythomnpgpbhpojaa.Lw
open Go Go.RowKit Go.Proofs.Ythomnpgpbhpojaa.Mem Go.Proofs.Ythomnpgpbhpojaa.Sl Go.Proofs.YthomnpgpbhpojaaW.PrintWords Go.Proofs.YthomnpgpbhpojaaW.PrintLast
attribute [local go_sem ↓] Go.wp_at_zero Go.wp_at_succ
set_option linter.unusedSimpArgs false
set_option linter.unusedVariables false

def ArgV (w : World) (v : Value) (n size : Nat) (news : List Value) : Prop :=
  news.length = n * size ∧ (∀ u ∈ news, u.oneCell' = true) ∧ ((v = .slice none 0 0 ∧ n = 0) ∨ ∃ ad c, v = .slice (some ad) n c ∧ n ≤ c ∧ ∀ j u, news[j]? = some u → w.cell? (ad.add j) = some u)
theorem ArgV.rd {w : World} {v : Value} {n size : Nat} {news : List Value} (h : ArgV w v n size news) : RdV w v n size news :=
  ⟨h.1, h.2.1, h.2.2.imp id (fun ⟨ad, c, e, _, hc⟩ => ⟨ad, c, e, hc⟩)⟩

theorem ArgV.take {w : World} {A : Option Addr} {c n size m : Nat} {news : List Value} (h : ArgV w (.slice A n c) n size news) (hm : m ≤ n) : RdV w (.slice A m c) m size (news.take (m * size)) ∧ n ≤ c := by
  obtain ⟨hl, h1, h2⟩ := h
  have hlt : (news.take (m * size)).length = m * size := by
    rw [List.length_take, hl]
    exact Nat.min_eq_left (Nat.mul_le_mul_right _ hm)
  have h1' : ∀ u ∈ news.take (m * size), u.oneCell' = true := fun u hu => h1 u (List.mem_of_mem_take hu)
  rcases h2 with ⟨he, rfl⟩ | ⟨ad, c', he, hnc, hc⟩
  · cases he
    obtain rfl : m = 0 := by omega
    exact ⟨⟨hlt, h1', .inl ⟨rfl, rfl⟩⟩, Nat.le_refl _⟩
  · cases he
    refine ⟨⟨hlt, h1', .inr ⟨ad, c, rfl, fun j u hu => ?_⟩⟩, hnc⟩
    rw [List.getElem?_take] at hu
    split at hu
    · exact hc j u hu
    · cases hu

theorem RdV.lit (w : World) (a : Array Value) (T : TypeId) (n size c : Nat) (hl : a.toList.length = n * size) (h1 : ∀ u ∈ a.toList, u.oneCell' = true) : RdV (w.alloc (.cells a T)) (.slice (some ⟨w.heap.size, 0, none⟩) n c) n size a.toList := by
  refine ⟨hl, h1, .inr ⟨_, _, rfl, fun j u hu => ?_⟩⟩
  rw [add_plain]
  simpa using (At.new w a T).cell j hu

theorem own_made {w : World} {base k size : Nat} {T : TypeId} (hk : w.heap.size = k) (hb : base ≤ w.heap.size) : (w.alloc (.cells #[] T)).ownsRow base T size (.slice (some ⟨k, 0, none⟩) 0 0) 0 [] := by
  subst hk
  exact World.ownsRow_lit w #[] 0 hb (by decide) (by simp)

theorem info_int : (Try.prog.info? 3).map (fun i => (i.zero, i.size, i.bytes)) = some (some (.int .i64 0), 1, 8) := by kernel_rfl
theorem info_arc : (Try.prog.info? 69).map (fun i => (i.zero, i.size, i.bytes)) = some (some (.agg #[.int .i64 0, .int .i64 0]), 2, 16) := by kernel_rfl

structure One (w0 : World) (e : TypeId) (size : Nat) (v : Value) (n : Nat) (xs : List Value) (W : World) : Prop where
  r : W.ownsRow w0.heap.size e size v n xs
  b : Below w0.heap.size w0 W
structure Two (w0 : World) (e1 : TypeId) (s1 : Nat) (v1 : Value) (n1 : Nat) (xs1 : List Value) (e2 : TypeId) (s2 : Nat) (v2 : Value) (n2 : Nat) (xs2 : List Value) (W : World) : Prop where
  r1 : W.ownsRow w0.heap.size e1 s1 v1 n1 xs1
  r2 : W.ownsRow w0.heap.size e2 s2 v2 n2 xs2
  ne : ∀ k, v1.ownBlock = some k → v2.ownBlock ≠ some k
  b : Below w0.heap.size w0 W
section
variable {w0 w w' : World} {e e1 e2 : TypeId} {s s1 s2 : Nat} {v v1 v2 : Value} {n n1 n2 : Nat} {xs xs1 xs2 : List Value}
theorem own_mono {B B' : Nat} (h : w.ownsRow B e s v n xs) (hb : B' ≤ B) : w.ownsRow B' e s v n xs :=
  ⟨h.1, h.2.imp id fun ⟨g, cap, cur, a1, a2, a3⟩ => ⟨g, cap, cur, a1, Nat.le_trans hb a2, a3⟩⟩
theorem own_below {B : Nat} (h : w.ownsRow B e s v n xs) (hb : Below w.heap.size w w') : w'.ownsRow B e s v n xs :=
  h.kept (row := none) ⟨hb.os, hb.tape, hb.output, hb.size, fun k hk _ => hb.block k hk⟩ (by cases v.ownBlock <;> simp)
theorem One.make (h0 : Below w0.heap.size w0 w) (h : w'.ownsRow w.heap.size e s v 0 []) (hb : Below w.heap.size w w') : One w0 e s v 0 [] w' :=
  ⟨own_mono h h0.size, h0.trans (hb.mono h0.size)⟩
theorem One.below (h : One w0 e s v n xs w) (hb : Below w.heap.size w w') : One w0 e s v n xs w' := ⟨own_below h.r hb, h.b.trans (hb.mono h.b.size)⟩
theorem Two.below (h : Two w0 e1 s1 v1 n1 xs1 e2 s2 v2 n2 xs2 w) (hb : Below w.heap.size w w') : Two w0 e1 s1 v1 n1 xs1 e2 s2 v2 n2 xs2 w' := ⟨own_below h.r1 hb, own_below h.r2 hb, h.ne, h.b.trans (hb.mono h.b.size)⟩
theorem Two.swap (h : Two w0 e1 s1 v1 n1 xs1 e2 s2 v2 n2 xs2 w) : Two w0 e2 s2 v2 n2 xs2 e1 s1 v1 n1 xs1 w := ⟨h.r2, h.r1, fun k h2 h1 => h.ne k h1 h2, h.b⟩
theorem One.and (h : One w0 e1 s1 v1 n1 xs1 w) (h2 : w'.ownsRow w.heap.size e2 s2 v2 0 []) (hb : Below w.heap.size w w') (hv : v2.ownBlock = some w.heap.size) : Two w0 e1 s1 v1 n1 xs1 e2 s2 v2 0 [] w' :=
  ⟨own_below h.r hb, own_mono h2 h.b.size, fun k hk hk2 => by
    have := (h.r.lt k hk).2
    rw [hv] at hk2
    cases hk2
    omega, h.b.trans (hb.mono h.b.size)⟩
theorem One.grow (h : One w0 e s v n xs w) {v' : Value} {n' : Nat} {xs' : List Value} (ho : w'.ownsRow w0.heap.size e s v' n' xs') (hg : w.grownBy w' v.ownBlock) : One w0 e s v' n' xs' w' :=
  ⟨ho, h.b.grown hg h.b.size fun k hk => (h.r.lt k hk).1⟩
end


end Go.Proofs.Ythomnpgpbhpojaa.Lw

/- parts.Parts[int] in memory. -/
namespace Go.Proofs.Ythomnpgpbhpojaa.Pt
open Go Go.RowKit Go.Proofs.Ythomnpgpbhpojaa.Mem Go.Proofs.Ythomnpgpbhpojaa.Sl Go.Proofs.Ythomnpgpbhpojaa.Lw Go.Proofs.YthomnpgpbhpojaaW.PrintWords Go.Proofs.YthomnpgpbhpojaaW.PrintLast
attribute [local go_sem ↓] Go.wp_at_zero Go.wp_at_succ
set_option linter.unusedSimpArgs false
set_option linter.unusedVariables false

def ptf (cls : Int → Option Nat) : Int → Option Value := fun v => (cls v).map fun b => .pointer (some ⟨b, 0, none⟩)
structure PtR (w : World) (cls : Int → Option Nat) (row : Nat → List Int) (val : Nat → Value) (pb : Nat → Prop) : Prop where
  hb : ∀ v b, cls v = some b → At w b [val b] 25 ∧ w.ownsRow 0 3 1 (val b) (row b).length (ints (row b)) ∧ pb b ∧ ∀ k, (val b).ownBlock = some k → pb k
  mem : ∀ v b, cls v = some b → ∀ x, x ∈ row b ↔ cls x = some b
  nd : ∀ v b, cls v = some b → (row b).Nodup
  ne : ∀ v v' b b' k, cls v = some b → cls v' = some b' → b ≠ b' → (val b).ownBlock = some k → (val b').ownBlock ≠ some k
  lt : ∀ k, pb k → k < w.heap.size
structure PtS (w : World) (gp gm : Nat) (cls : Int → Option Nat) (row : Nat → List Int) (val : Nat → Value) (pb : Nat → Prop) : Prop where
  hp : At w gp [.map (some gm)] 81
  hm : MQ w gm (ptf cls)
  pm : pb gm
  np : ¬ pb gp
  r : PtR w cls row val pb
def ext (p : Nat → Prop) (w w' : World) : Nat → Prop := fun k => p k ∨ (w.heap.size ≤ k ∧ k < w'.heap.size)

section
variable {w w' : World} {gp gm : Nat} {cls : Int → Option Nat} {row : Nat → List Int} {val : Nat → Value} {pb : Nat → Prop}
theorem ptf_none {v : Int} (h : cls v = none) : ptf cls v = none := by simp [ptf, h]
theorem ptf_some {v : Int} {b : Nat} (h : cls v = some b) : ptf cls v = some (.pointer (some ⟨b, 0, none⟩)) := by simp [ptf, h]
theorem PtR.below (h : PtR w cls row val pb) (hb : Below w.heap.size w w') : PtR w' cls row val pb :=
  ⟨fun v b hv => by
    obtain ⟨a1, a2, a3, a4⟩ := h.hb v b hv
    exact ⟨a1.below hb a1.lt, own_below a2 hb, a3, a4⟩, h.mem, h.nd, h.ne, fun k hk => Nat.lt_of_lt_of_le (h.lt k hk) hb.size⟩
theorem PtR.kept {p : Nat → Prop} (h : PtR w cls row val pb) (hk : Kpt p w w') (hp : ∀ k, p k → ∀ T cs, w.heap[k]? ≠ some (.cells cs T (0, 0))) : PtR w' cls row val pb :=
  ⟨fun v b hv => by
    obtain ⟨a1, a2, a3, a4⟩ := h.hb v b hv
    refine ⟨a1.kept hk fun hh => hp b hh _ _ a1, ?_, a3, a4⟩
    refine ⟨a2.1, ?_⟩
    rcases a2.2 with h0 | ⟨g, cap, cur, e1, e2, e3, r⟩
    · exact .inl h0
    · exact .inr ⟨g, cap, cur, e1, e2, (hk.block g (lt_of_block e3) fun hh => hp g hh _ _ e3).trans e3, r⟩, h.mem, h.nd, h.ne, fun k hk' => Nat.lt_of_lt_of_le (h.lt k hk') hk.size⟩
theorem PtS.below (h : PtS w gp gm cls row val pb) (hb : Below w.heap.size w w') : PtS w' gp gm cls row val pb :=
  ⟨h.hp.below hb h.hp.lt, h.hm.below hb h.hm.lt, h.pm, h.np, h.r.below hb⟩
theorem PtR.self {v : Int} {b : Nat} (h : PtR w cls row val pb) (hv : cls v = some b) : v ∈ row b := (h.mem v b hv v).2 hv
theorem PtR.pos {v : Int} {b : Nat} (h : PtR w cls row val pb) (hv : cls v = some b) : 0 < (row b).length := List.length_pos_of_mem (h.self hv)
theorem PtS.gmp (h : PtS w gp gm cls row val pb) : gp ≠ gm := fun e => h.np (e ▸ h.pm)
theorem PtS.bm {v : Int} {b : Nat} (h : PtS w gp gm cls row val pb) (hv : cls v = some b) : b ≠ gm := h.hm.ne (h.r.hb v b hv).1
theorem PtR.single (h : PtR w cls row val pb) {k : Int} (hk : cls k = none) {gA gB : Nat} (hA : At w' gA [.int .i64 k] 3) (hB : At w' gB [.slice (some ⟨gA, 0, none⟩) 1 1] 25) (hgA : w.heap.size ≤ gA) (hgB : w.heap.size ≤ gB) (hAB : gA ≠ gB) {p : Nat → Prop} (hkp : Kpt p w w') (hp : ∀ k, p k → ∀ T cs, w.heap[k]? ≠ some (.cells cs T (0, 0))) :
    PtR w' (fun x => if x = k then some gB else cls x) (fun b => if b = gB then [k] else row b) (fun b => if b = gB then .slice (some ⟨gA, 0, none⟩) 1 1 else val b) (ext pb w w') := by
  have h' := h.kept hkp hp
  have hold : ∀ v b, cls v = some b → b ≠ gB := fun v b hv e => by
    have := h.lt b (h.hb v b hv).2.2.1
    omega
  have hcell : w'.ownsRow 0 3 1 (.slice (some ⟨gA, 0, none⟩) 1 1) 1 [.int .i64 k] := ⟨rfl, .inr ⟨gA, 1, #[.int .i64 k], rfl, Nat.zero_le _, hA, Nat.le_refl _, by decide, rfl, rfl⟩⟩
  have hcase : ∀ v b, (if v = k then some gB else cls v) = some b → (v = k ∧ b = gB) ∨ (v ≠ k ∧ cls v = some b ∧ b ≠ gB) := fun v b hv => by
    by_cases e : v = k
    · rw [if_pos e] at hv
      cases hv
      exact .inl ⟨e, rfl⟩
    · rw [if_neg e] at hv
      exact .inr ⟨e, hv, hold v b hv⟩
  have hnew : ∀ v b kk, cls v = some b → (val b).ownBlock = some kk → kk ≠ gA := fun v b kk hv e1 e => by
    have := h.lt kk ((h.hb v b hv).2.2.2 kk e1)
    omega
  refine ⟨fun v b hv => ?_, fun v b hv x => ?_, fun v b hv => ?_, fun v v' b b' kk hv hv' hne e1 e2 => ?_, fun kk hkk => ?_⟩
  · rcases hcase v b hv with ⟨rfl, rfl⟩ | ⟨e, hv, hb⟩
    · rw [if_pos rfl, if_pos rfl]
      refine ⟨hB, hcell, .inr ⟨hgB, hB.lt⟩, fun kk e => ?_⟩
      cases e
      exact .inr ⟨hgA, hA.lt⟩
    · rw [if_neg hb, if_neg hb]
      obtain ⟨a1, a2, a3, a4⟩ := h'.hb v b hv
      exact ⟨a1, a2, .inl a3, fun kk e => .inl (a4 kk e)⟩
  · rcases hcase v b hv with ⟨rfl, rfl⟩ | ⟨e, hv, hb⟩
    · rw [if_pos rfl, List.mem_singleton]
      constructor
      · rintro rfl
        rw [if_pos rfl]
      · intro hx
        rcases hcase x _ hx with ⟨rfl, _⟩ | ⟨_, hx, hb⟩
        · rfl
        · exact absurd rfl hb
    · rw [if_neg hb, h.mem v b hv x]
      by_cases ex : x = k
      · subst ex
        rw [if_pos rfl, hk]
        constructor
        · intro hh; cases hh
        · intro hh; cases hh; exact absurd rfl hb
      · rw [if_neg ex]
  · rcases hcase v b hv with ⟨rfl, rfl⟩ | ⟨e, hv, hb⟩
    · rw [if_pos rfl]; simp
    · rw [if_neg hb]; exact h.nd v b hv
  · rcases hcase v b hv with ⟨c1, c2⟩ | ⟨e, hv2, hb⟩ <;> rcases hcase v' b' hv' with ⟨d1, d2⟩ | ⟨e', hv2', hb'⟩
    · exact absurd (c2.trans d2.symm) hne
    · rw [if_pos c2] at e1
      rw [if_neg hb'] at e2
      cases e1
      exact hnew v' b' _ hv2' e2 rfl
    · rw [if_neg hb] at e1
      rw [if_pos d2] at e2
      cases e2
      exact hnew v b _ hv2 e1 rfl
    · rw [if_neg hb] at e1
      rw [if_neg hb'] at e2
      exact h.ne v v' b b' kk hv2 hv2' hne e1 e2
  · rcases hkk with hkk | ⟨_, hkk⟩
    · exact h'.lt kk hkk
    · exact hkk

theorem zero_ptr : ∀ w : World, (zeroValue 82).run Try.prog w = .ok (.pointer none) w := fun w => by kernel_rfl
theorem PtS.look (h : PtS w gp gm cls row val pb) (v : Int) :
    (Instr.lookup 79 (.map (some gm)) (.int .i64 v) false).run Try.prog w = .ok ((ptf cls v).getD (.pointer none)) w :=
  h.hm.lookup Try.underlying79 Try.underlying3 zero_ptr v

theorem info_ints : (Try.prog.info? 25).map (·.size) = some 1 := by kernel_rfl
theorem PtS.eqp (h : PtS w gp gm cls row val pb) {v v' : Int} {b b' : Nat} (hv : cls v = some b) (hv' : cls v' = some b') :
    (binOp .eql 82 (.pointer (some ⟨b, 0, none⟩)) (.pointer (some ⟨b', 0, none⟩))).run Try.prog w = .ok (.bool (decide (b = b'))) w := by
  obtain ⟨i, hi, hs⟩ : ∃ i, Try.prog.info? 25 = some i ∧ i.size = 1 := by
    have h1 := info_ints
    cases hi : Try.prog.info? 25 with
    | none => rw [hi] at h1; cases h1
    | some i => rw [hi] at h1; exact ⟨i, rfl, by simpa using h1⟩
  by_cases hb : b = b'
  · subst hb
    rw [run_eql_ptr_same w _ Try.underlying82 hi]
    simp
  · rw [run_eql_ptr_other w Try.underlying82 hi (a := ⟨b, 0, none⟩) (b := ⟨b', 0, none⟩) (by omega) (fun e => hb (by cases e; rfl)) (ca := #[val b]) (ta := 25) (cb := #[val b']) (tb := 25) (h.r.hb v b hv).1 (h.r.hb v' b' hv').1]
    simp [hb]

set_option maxHeartbeats 4000000 in
theorem head_calls (h : PtS w gp gm cls row val pb) (v : Int) (hl : ∀ v b, cls v = some b → (row b).length ≤ 1000000) :
    Calls Try.prog 44 #[.pointer (some ⟨gp, 0, none⟩), .int .i64 v] w fun e w' => e = .returned (.tuple #[.int .i64 (match cls v with | none => 0 | some b => Lib.minOf (row b)), .bool (cls v).isSome]) ∧ w' = w := by
  have q0 := h.hp.cell 0 rfl
  have hlk := h.look v
  cases hv : cls v with
  | none =>
    rw [ptf_none hv, Option.getD_none] at hlk
    clear h hl hv
    go_enter Try.func44, Try.ntmps44
    go_wp2
    go_ret2
    exact ⟨rfl, rfl⟩
  | some b =>
    rw [ptf_some hv, Option.getD_some] at hlk
    obtain ⟨a1, a2, _, _⟩ := h.r.hb v b hv
    have hpos := h.r.pos hv
    have hll := hl v b hv
    obtain ⟨g, c, hval, _, _⟩ := a2.form hpos
    rw [hval] at a1 a2
    obtain ⟨n, hn⟩ : ∃ n, (row b).length = n := ⟨_, rfl⟩
    have c0 := a1.cell 0 rfl
    rw [hn] at c0 hpos hll
    have hmin := Try.slices_Min_int g 0 n c (row b) w hpos (by omega) (by omega) (fun j hj => by
      rw [Nat.zero_add]
      exact (a2.cellAt j (by omega)).trans (by rw [ints_at _ (List.getElem?_eq_getElem hj), List.getD_eq_getElem?_getD, List.getElem?_eq_getElem hj]; rfl))
    rw [← hn, List.take_length, hn] at hmin
    have HMIN := Lib.hid hmin
    obtain ⟨mn, hmn⟩ : ∃ mn, Lib.minOf (row b) = mn := ⟨_, rfl⟩
    rw [hmn] at HMIN
    dsimp only
    rw [hmn]
    clear hmin h hl hv a1 a2 hval hn hmn
    go_enter Try.func44, Try.ntmps44
    go_wp2_with fail
    refine HMIN.out.mono ?_
    rintro e w' ⟨rfl, rfl⟩
    go_wp2
    go_ret2
    exact ⟨rfl, rfl⟩
end
end Go.Proofs.Ythomnpgpbhpojaa.Pt
