/- The references' small functions: SameInts, SameLists, in, Comp. -/
import Derived.Test.YthlmffjafeodlaaSl
import Derived.Test.YthlmffjafeodlaaWLast
import Derived.Test.YthlmffjafeodlaaWTab
import Derived.Deep.RegionHeld3
import Derived.Deep.DrawnRows
import Derived.Deep.LoopGhost
import Derived.Deep.DeepCutAuto
import Derived.BigRegion
import Derived.Outline
import Derived.WalkLawsBesides
import Derived.WalkSpells
import Derived.Lib.Hide
namespace Go.Proofs.Ythlmffjafeodlaa.Lw
open Go Go.RowKit Go.Proofs.Ythlmffjafeodlaa.Mem Go.Proofs.Ythlmffjafeodlaa.Sl Go.Proofs.YthlmffjafeodlaaW.PrintWords Go.Proofs.YthlmffjafeodlaaW.PrintLast
attribute [local go_sem ↓] Go.wp_at_zero Go.wp_at_succ
set_option linter.unusedSimpArgs false
set_option linter.unusedVariables false

/-- The list of lists can be read at A. -/
def RdL (w : World) (A : Option Addr) (ls : List (List Int)) : Prop := ∀ (i : Nat) (r : List Int), ls[i]? = some r → ∃ b B c, A = some ⟨b, 0, none⟩ ∧ w.cell? ⟨b, i, none⟩ = some (.slice B r.length c) ∧ RdI w B r
theorem RdL.below {w w' : World} {A : Option Addr} {ls : List (List Int)} (h : RdL w A ls) (hb : Below w.heap.size w w') : RdL w' A ls := fun i r hr => by
  obtain ⟨b, B, c, h1, h2, h3⟩ := h i r hr
  exact ⟨b, B, c, h1, (hb.cell (p := ⟨b, i, none⟩) (World.block_lt_of_cell? w _ h2)).trans h2, h3.below hb⟩
theorem RdI.drewN {w : World} {A : Option Addr} {l : List Int} (h : RdI w A l) (k : Nat) : RdI (w.drewN k) A l := h
theorem RdL.drewN {w : World} {A : Option Addr} {ls : List (List Int)} (h : RdL w A ls) (k : Nat) : RdL (w.drewN k) A ls := h

theorem eq_snoc {α : Type} {a b : List α} {j : Nat} (ha : j < a.length) (hb : j < b.length) (h : a.take j = b.take j) (he : a[j] = b[j]) : a.take (j + 1) = b.take (j + 1) := by
  rw [List.take_add_one, List.take_add_one, h, List.getElem?_eq_getElem ha, List.getElem?_eq_getElem hb, he]

def tb14_6.T6 : Bool × List (List Nat × List Nat) := (true, [([], []), ([], []), ([0, 1], [0, 1]), ([2], [2]), ([], []), ([], []), ([4, 5], [4, 5]), ([6], [6]), ([3, 7], [3, 7])])
def tb14_6.B6 : List Nat := [0, 0, 3, 7, 0, 0, 48, 112, 255]
theorem tb14_6.tab6 : rtab .any (opsOf Try.f14 6) = tb14_6.T6 := by kernel_rfl
theorem tb14_6.bits6 : waitsOk tb14_6.T6.2 tb14_6.B6 = true := by kernel_rfl
def tb13_6.T6 : Bool × List (List Nat × List Nat) := (true, [([], []), ([], []), ([0, 1], [0, 1]), ([2], [2]), ([], []), ([], []), ([4, 5], [4, 5]), ([6], [6]), ([3, 7], [3, 7]), ([8], [8])])
def tb13_6.B6 : List Nat := [0, 0, 3, 7, 0, 0, 48, 112, 255, 511]
theorem tb13_6.tab6 : rtab .any (opsOf Try.f13 6) = tb13_6.T6 := by kernel_rfl
theorem tb13_6.bits6 : waitsOk tb13_6.T6.2 tb13_6.B6 = true := by kernel_rfl
set_option maxHeartbeats 4000000 in
set_option maxRecDepth 100000 in
theorem sameInts_calls (w : World) (A B : Option Addr) (ca cb : Nat) (a b : List Int) (ha : RdI w A a) (hb : RdI w B b) (hn : a.length ≤ 1000000) :
    Calls Try.prog 14 #[.slice A a.length ca, .slice B b.length cb] w fun e w' => e = .returned (.bool (decide (a = b))) ∧ ∃ q, w' = w.drewN q := by
  by_cases hl : a.length = b.length
  · rw [← hl]
    obtain ⟨n, hna⟩ : ∃ n, a.length = n := ⟨_, rfl⟩
    rw [hna] at hn ⊢
    have e1 : ((n : Int) == (n : Int)) = true := by simp
    have e2 : ((n : Int) != (n : Int)) = false := by rw [bne, e1]; rfl
    have HA := Lib.hid (And.intro ha hb)
    have HL := Lib.hid (And.intro hna (hl.symm.trans hna))
    clear ha hb hna hl
    go_enter Try.func14, Try.ntmps14
    go_wp2
    clear e1 e2
    go_loopg [13] n (fun kq v13 w' => ∃ j : Nat, v13 = .int .i64 (j : Int) ∧ Hid (j + kq = n ∧ a.take j = b.take j ∧ ∃ q, w' = w.drewN q))
    case atStart => exact ⟨0, rfl, Lib.hid ⟨by omega, by simp, 0, rfl⟩⟩
    case round =>
      obtain ⟨j, rfl, hI⟩ := hrel
      obtain ⟨hjk, htk, q, rfl⟩ := hI.out
      clear hI
      have hla := HL.out.1
      have hlb := HL.out.2
      by_cases hj : j < n
      · have hja : j < a.length := by omega
        have hjb : j < b.length := by omega
        obtain ⟨x, hx⟩ : ∃ x, a[j]'hja = x := ⟨_, rfl⟩
        obtain ⟨y, hy⟩ : ∃ y, b[j]'hjb = y := ⟨_, rfl⟩
        obtain ⟨ba, rfl, hcx⟩ := (RdI.drewN HA.out.1 q) j x (by rw [List.getElem?_eq_getElem (by omega), hx])
        obtain ⟨bb, rfl, hcy⟩ := (RdI.drewN HA.out.2 q) j y (by rw [List.getElem?_eq_getElem (by omega), hy])
        obtain ⟨k1, rfl⟩ : ∃ k1, gk = k1 + 1 := ⟨gk - 1, by omega⟩
        have j0 : (0 : Int) ≤ (j : Int) := by omega
        have j1 : (j : Int) < (n : Int) := by omega
        have j2 : (n : Int) ≤ 1000000 := by omega
        by_cases hxy : x = y
        · have e1 : ((x : Int) == y) = true := by rw [hxy]; simp
          have e2 : ((x : Int) != y) = false := by rw [bne, e1]; rfl
          have hs := eq_snoc (a := a) (b := b) (j := j) (by omega) (by omega) htk (by rw [hx, hy, hxy])
          have HS := Lib.hid (And.intro hjk hs)
          clear htk hs hx hy hjk hxy hla hlb
          go_wp2
          refine start_ (n := 9) (S := fun w' => w'.cell? ⟨ba, j, none⟩ = some (.int .i64 x) ∧ w'.cell? ⟨bb, j, none⟩ = some (.int .i64 y)) (ds := []) #[false, false, false, false, false, false, false, false, false] (by kernel_rfl) rfl rfl ⟨hcx, hcy⟩ (fun hHeld => ?_)
          refine with_tabW tb14_6.tab6 tb14_6.bits6 (fun HT_ HW_ => ?_)
          refine pure_ (i := 0) (N := some 16) (v := ?_) (a' := ?_) #[true, false, false, false, false, false, false, false, false] rfl rfl (any_of HT_.out (by kernel_rfl)) (fun _ _ _ h => h) (Or.inl ⟨by rfl, ?_⟩) ?_ ?_
          rotate_left
          · intro w'
            go_simp
            with_reducible rfl
          rotate_left
          · simp only [Act.put, List.setIfInBounds_toArray, List.set_cons_zero, List.set_cons_succ, i64_w, i32_w]
            rfl
          refine pure_ (i := 1) (N := some 17) (v := ?_) (a' := ?_) #[true, true, false, false, false, false, false, false, false] rfl rfl (any_of HT_.out (by kernel_rfl)) (fun _ _ _ h => h) (Or.inl ⟨by rfl, ?_⟩) ?_ ?_
          rotate_left
          · intro w'
            go_simp
            with_reducible rfl
          rotate_left
          · simp only [Act.put, List.setIfInBounds_toArray, List.set_cons_zero, List.set_cons_succ, i64_w, i32_w]
            rfl
          refine pure_ (i := 2) (N := some 18) (v := ?_) (a' := ?_) #[true, true, true, false, false, false, false, false, false] rfl rfl (any_of HT_.out (by kernel_rfl)) (fun _ _ _ h => h) (Or.inl ⟨by rfl, ?_⟩) ?_ ?_
          rotate_left
          · intro w'
            go_simp
            with_reducible rfl
          rotate_left
          · simp only [Act.put, List.setIfInBounds_toArray, List.set_cons_zero, List.set_cons_succ, i64_w, i32_w]
            rfl
          refine pure_ (i := 4) (N := some 20) (v := ?_) (a' := ?_) #[true, true, true, false, true, false, false, false, false] rfl rfl (any_of HT_.out (by kernel_rfl)) (fun _ _ _ h => h) (Or.inl ⟨by rfl, ?_⟩) ?_ ?_
          rotate_left
          · intro w'
            go_simp
            with_reducible rfl
          rotate_left
          · simp only [Act.put, List.setIfInBounds_toArray, List.set_cons_zero, List.set_cons_succ, i64_w, i32_w]
            rfl
          refine pure_ (i := 5) (N := some 21) (v := ?_) (a' := ?_) #[true, true, true, false, true, true, false, false, false] rfl rfl (any_of HT_.out (by kernel_rfl)) (fun _ _ _ h => h) (Or.inl ⟨by rfl, ?_⟩) ?_ ?_
          rotate_left
          · intro w'
            go_simp
            with_reducible rfl
          rotate_left
          · simp only [Act.put, List.setIfInBounds_toArray, List.set_cons_zero, List.set_cons_succ, i64_w, i32_w]
            rfl
          refine pure_ (i := 6) (N := some 22) (v := ?_) (a' := ?_) #[true, true, true, false, true, true, true, false, false] rfl rfl (any_of HT_.out (by kernel_rfl)) (fun _ _ _ h => h) (Or.inl ⟨by rfl, ?_⟩) ?_ ?_
          rotate_left
          · intro w'
            go_simp
            with_reducible rfl
          rotate_left
          · simp only [Act.put, List.setIfInBounds_toArray, List.set_cons_zero, List.set_cons_succ, i64_w, i32_w]
            rfl
          refine take_ (i := 3) (N := some 19) (v := ?_) (a' := ?_) #[true, true, true, true, true, true, true, false, false] rfl rfl (take_ofW HT_.out HW_.out (by kernel_rfl)) (fun _ _ _ h => h) (Or.inl ⟨by rfl, ?_⟩) hHeld ?_ ?_
          rotate_left
          · rintro w' ⟨s0, s1⟩
            go_simp
            with_reducible rfl
          rotate_left
          · simp only [Act.put, List.setIfInBounds_toArray, List.set_cons_zero, List.set_cons_succ, i64_w, i32_w]
            rfl
          refine take_ (i := 7) (N := some 23) (v := ?_) (a' := ?_) #[true, true, true, true, true, true, true, true, false] rfl rfl (take_ofW HT_.out HW_.out (by kernel_rfl)) (fun _ _ _ h => h) (Or.inl ⟨by rfl, ?_⟩) hHeld ?_ ?_
          rotate_left
          · rintro w' ⟨s0, s1⟩
            go_simp
            with_reducible rfl
          rotate_left
          · simp only [Act.put, List.setIfInBounds_toArray, List.set_cons_zero, List.set_cons_succ, i64_w, i32_w]
            rfl
          refine pure_ (i := 8) (N := some 24) (v := ?_) (a' := ?_) #[true, true, true, true, true, true, true, true, true] rfl rfl (any_of HT_.out (by kernel_rfl)) (fun _ _ _ h => h) (Or.inl ⟨by rfl, ?_⟩) ?_ ?_
          rotate_left
          · intro w'
            go_simp
            with_reducible rfl
          rotate_left
          · simp only [Act.put, List.setIfInBounds_toArray, List.set_cons_zero, List.set_cons_succ, i64_w, i32_w]
            rfl
          refine done_ (done_of HT_.out (by kernel_rfl)) ?_
          clear hHeld HT_ HW_
          go_wp2
          go_roundg k1
          case measure => omega
          case rel => exact ⟨j + 1, by go_num, Lib.hid ⟨by have := HS.out.1; omega, HS.out.2, q + 1, rfl⟩⟩
        · have e1 : ((x : Int) == y) = false := beq_eq_false_iff_ne.2 hxy
          have e2 : ((x : Int) != y) = true := by rw [bne, e1]; rfl
          have hne : decide (a = b) = false := by
            rw [decide_eq_false_iff_not]
            intro he
            subst he
            exact hxy (hx.symm.trans hy)
          have HNE := Lib.hid hne
          clear htk hx hy hjk hla hlb hne
          go_wp2
          refine start_ (n := 9) (S := fun w' => w'.cell? ⟨ba, j, none⟩ = some (.int .i64 x) ∧ w'.cell? ⟨bb, j, none⟩ = some (.int .i64 y)) (ds := []) #[false, false, false, false, false, false, false, false, false] (by kernel_rfl) rfl rfl ⟨hcx, hcy⟩ (fun hHeld => ?_)
          refine with_tabW tb14_6.tab6 tb14_6.bits6 (fun HT_ HW_ => ?_)
          refine pure_ (i := 0) (N := some 16) (v := ?_) (a' := ?_) #[true, false, false, false, false, false, false, false, false] rfl rfl (any_of HT_.out (by kernel_rfl)) (fun _ _ _ h => h) (Or.inl ⟨by rfl, ?_⟩) ?_ ?_
          rotate_left
          · intro w'
            go_simp
            with_reducible rfl
          rotate_left
          · simp only [Act.put, List.setIfInBounds_toArray, List.set_cons_zero, List.set_cons_succ, i64_w, i32_w]
            rfl
          refine pure_ (i := 1) (N := some 17) (v := ?_) (a' := ?_) #[true, true, false, false, false, false, false, false, false] rfl rfl (any_of HT_.out (by kernel_rfl)) (fun _ _ _ h => h) (Or.inl ⟨by rfl, ?_⟩) ?_ ?_
          rotate_left
          · intro w'
            go_simp
            with_reducible rfl
          rotate_left
          · simp only [Act.put, List.setIfInBounds_toArray, List.set_cons_zero, List.set_cons_succ, i64_w, i32_w]
            rfl
          refine pure_ (i := 2) (N := some 18) (v := ?_) (a' := ?_) #[true, true, true, false, false, false, false, false, false] rfl rfl (any_of HT_.out (by kernel_rfl)) (fun _ _ _ h => h) (Or.inl ⟨by rfl, ?_⟩) ?_ ?_
          rotate_left
          · intro w'
            go_simp
            with_reducible rfl
          rotate_left
          · simp only [Act.put, List.setIfInBounds_toArray, List.set_cons_zero, List.set_cons_succ, i64_w, i32_w]
            rfl
          refine pure_ (i := 4) (N := some 20) (v := ?_) (a' := ?_) #[true, true, true, false, true, false, false, false, false] rfl rfl (any_of HT_.out (by kernel_rfl)) (fun _ _ _ h => h) (Or.inl ⟨by rfl, ?_⟩) ?_ ?_
          rotate_left
          · intro w'
            go_simp
            with_reducible rfl
          rotate_left
          · simp only [Act.put, List.setIfInBounds_toArray, List.set_cons_zero, List.set_cons_succ, i64_w, i32_w]
            rfl
          refine pure_ (i := 5) (N := some 21) (v := ?_) (a' := ?_) #[true, true, true, false, true, true, false, false, false] rfl rfl (any_of HT_.out (by kernel_rfl)) (fun _ _ _ h => h) (Or.inl ⟨by rfl, ?_⟩) ?_ ?_
          rotate_left
          · intro w'
            go_simp
            with_reducible rfl
          rotate_left
          · simp only [Act.put, List.setIfInBounds_toArray, List.set_cons_zero, List.set_cons_succ, i64_w, i32_w]
            rfl
          refine pure_ (i := 6) (N := some 22) (v := ?_) (a' := ?_) #[true, true, true, false, true, true, true, false, false] rfl rfl (any_of HT_.out (by kernel_rfl)) (fun _ _ _ h => h) (Or.inl ⟨by rfl, ?_⟩) ?_ ?_
          rotate_left
          · intro w'
            go_simp
            with_reducible rfl
          rotate_left
          · simp only [Act.put, List.setIfInBounds_toArray, List.set_cons_zero, List.set_cons_succ, i64_w, i32_w]
            rfl
          refine take_ (i := 3) (N := some 19) (v := ?_) (a' := ?_) #[true, true, true, true, true, true, true, false, false] rfl rfl (take_ofW HT_.out HW_.out (by kernel_rfl)) (fun _ _ _ h => h) (Or.inl ⟨by rfl, ?_⟩) hHeld ?_ ?_
          rotate_left
          · rintro w' ⟨s0, s1⟩
            go_simp
            with_reducible rfl
          rotate_left
          · simp only [Act.put, List.setIfInBounds_toArray, List.set_cons_zero, List.set_cons_succ, i64_w, i32_w]
            rfl
          refine take_ (i := 7) (N := some 23) (v := ?_) (a' := ?_) #[true, true, true, true, true, true, true, true, false] rfl rfl (take_ofW HT_.out HW_.out (by kernel_rfl)) (fun _ _ _ h => h) (Or.inl ⟨by rfl, ?_⟩) hHeld ?_ ?_
          rotate_left
          · rintro w' ⟨s0, s1⟩
            go_simp
            with_reducible rfl
          rotate_left
          · simp only [Act.put, List.setIfInBounds_toArray, List.set_cons_zero, List.set_cons_succ, i64_w, i32_w]
            rfl
          refine pure_ (i := 8) (N := some 24) (v := ?_) (a' := ?_) #[true, true, true, true, true, true, true, true, true] rfl rfl (any_of HT_.out (by kernel_rfl)) (fun _ _ _ h => h) (Or.inl ⟨by rfl, ?_⟩) ?_ ?_
          rotate_left
          · intro w'
            go_simp
            with_reducible rfl
          rotate_left
          · simp only [Act.put, List.setIfInBounds_toArray, List.set_cons_zero, List.set_cons_succ, i64_w, i32_w]
            rfl
          refine done_ (done_of HT_.out (by kernel_rfl)) ?_
          clear hHeld HT_ HW_
          go_wp2
          go_ret
          exact ⟨by rw [HNE.out]; rfl, q + 1, rfl⟩
      · have heq : decide (a = b) = true := by
          rw [List.take_of_length_le (by omega), List.take_of_length_le (by omega)] at htk
          simpa using htk
        have j0 : (n : Int) ≤ (j : Int) := by omega
        have HE := Lib.hid heq
        clear heq htk hjk hj hla hlb
        go_wp2
        go_ret
        exact ⟨by rw [HE.out]; rfl, q, rfl⟩
  · have e1 : ((a.length : Int) == (b.length : Int)) = false := beq_eq_false_iff_ne.2 (by omega)
    have e2 : ((a.length : Int) != (b.length : Int)) = true := by rw [bne, e1]; rfl
    have hne : decide (a = b) = false := by
      rw [decide_eq_false_iff_not]
      intro he
      exact hl (by rw [he])
    have HNE := Lib.hid hne
    have HL := Lib.hid hl
    clear ha hb hne hl
    go_enter Try.func14, Try.ntmps14
    go_wp2
    go_ret
    exact ⟨by rw [HNE.out]; rfl, 0, rfl⟩

set_option maxHeartbeats 4000000 in
set_option maxRecDepth 100000 in
theorem sameLists_calls (w : World) (A B : Option Addr) (ca cb : Nat) (a b : List (List Int)) (ha : RdL w A a) (hb : RdL w B b) (hn : a.length ≤ 1000000) (hr : ∀ r ∈ a, r.length ≤ 1000000) :
    Calls Try.prog 13 #[.slice A a.length ca, .slice B b.length cb] w fun e w' => e = .returned (.bool (decide (a = b))) ∧ ∃ q, w' = w.drewN q := by
  by_cases hl : a.length = b.length
  · rw [← hl]
    obtain ⟨n, hna⟩ : ∃ n, a.length = n := ⟨_, rfl⟩
    rw [hna] at hn ⊢
    have e1 : ((n : Int) == (n : Int)) = true := by simp
    have e2 : ((n : Int) != (n : Int)) = false := by rw [bne, e1]; rfl
    have HA := Lib.hid (And.intro ha hb)
    have HL := Lib.hid (And.intro hna (hl.symm.trans hna))
    have HRL := Lib.hid hr
    clear ha hb hna hl hr
    go_enter Try.func13, Try.ntmps13
    go_wp2
    clear e1 e2
    go_loopg [13] n (fun kq v13 w' => ∃ j : Nat, v13 = .int .i64 (j : Int) ∧ Hid (j + kq = n ∧ a.take j = b.take j ∧ ∃ q, w' = w.drewN q))
    case atStart => exact ⟨0, rfl, Lib.hid ⟨by omega, by simp, 0, rfl⟩⟩
    case round =>
      obtain ⟨j, rfl, hI⟩ := hrel
      obtain ⟨hjk, htk, q, rfl⟩ := hI.out
      clear hI
      have hla := HL.out.1
      have hlb := HL.out.2
      by_cases hj : j < n
      · have hja : j < a.length := by omega
        have hjb : j < b.length := by omega
        obtain ⟨x, hx⟩ : ∃ x, a[j]'hja = x := ⟨_, rfl⟩
        obtain ⟨y, hy⟩ : ∃ y, b[j]'hjb = y := ⟨_, rfl⟩
        obtain ⟨ba, X, cx, rfl, hcx, hrx⟩ := (RdL.drewN HA.out.1 q) j x (by rw [List.getElem?_eq_getElem (by omega), hx])
        obtain ⟨bb, Y, cy, rfl, hcy, hry⟩ := (RdL.drewN HA.out.2 q) j y (by rw [List.getElem?_eq_getElem (by omega), hy])
        have hxl : x.length ≤ 1000000 := HRL.out x (hx ▸ List.getElem_mem _)
        obtain ⟨k1, rfl⟩ : ∃ k1, gk = k1 + 1 := ⟨gk - 1, by omega⟩
        have j0 : (0 : Int) ≤ (j : Int) := by omega
        have j1 : (j : Int) < (n : Int) := by omega
        have j2 : (n : Int) ≤ 1000000 := by omega
        have hcall : Calls Try.prog 14 #[.slice X x.length cx, .slice Y y.length cy] ((w.drewN q).drew) fun e w' => e = .returned (.bool (decide (x = y))) ∧ ∃ q', w' = ((w.drewN q).drew).drewN q' := sameInts_calls _ X Y cx cy x y (RdI.drewN hrx 1) (RdI.drewN hry 1) hxl
        have HC := Lib.hid hcall
        have HX := Lib.hid (And.intro hx hy)
        have HJ := Lib.hid (And.intro hjk htk)
        clear hcall hrx hry hxl hx hy hjk htk hla hlb
        have hg : ∀ q' : Nat, (((w.drewN q).drew).drewN q').cell? ⟨ba, j, none⟩ = some (.slice X x.length cx) ∧ (((w.drewN q).drew).drewN q').cell? ⟨bb, j, none⟩ = some (.slice Y y.length cy) := fun q' => ⟨hcx, hcy⟩
        have HG := Lib.hid hg
        clear hg
        obtain ⟨ans, hans⟩ : ∃ ans, decide (x = y) = ans := ⟨_, rfl⟩
        rw [hans] at HC
        have HANS := Lib.hid hans
        clear hans
        go_wp2_with fail
        refine start_ (n := 10) (S := fun w' => w'.cell? ⟨ba, j, none⟩ = some (.slice X x.length cx) ∧ w'.cell? ⟨bb, j, none⟩ = some (.slice Y y.length cy)) (ds := []) #[false, false, false, false, false, false, false, false, false, false] (by kernel_rfl) rfl rfl ⟨hcx, hcy⟩ (fun hHeld => ?_)
        refine with_tabW tb13_6.tab6 tb13_6.bits6 (fun HT_ HW_ => ?_)
        refine pure_ (i := 0) (N := some 16) (v := ?_) (a' := ?_) #[true, false, false, false, false, false, false, false, false, false] rfl rfl (any_of HT_.out (by kernel_rfl)) (fun _ _ _ h => h) (Or.inl ⟨by rfl, ?_⟩) ?_ ?_
        rotate_left
        · intro w'
          go_simp
          with_reducible rfl
        rotate_left
        · simp only [Act.put, List.setIfInBounds_toArray, List.set_cons_zero, List.set_cons_succ, i64_w, i32_w]
          rfl
        refine pure_ (i := 1) (N := some 17) (v := ?_) (a' := ?_) #[true, true, false, false, false, false, false, false, false, false] rfl rfl (any_of HT_.out (by kernel_rfl)) (fun _ _ _ h => h) (Or.inl ⟨by rfl, ?_⟩) ?_ ?_
        rotate_left
        · intro w'
          go_simp
          with_reducible rfl
        rotate_left
        · simp only [Act.put, List.setIfInBounds_toArray, List.set_cons_zero, List.set_cons_succ, i64_w, i32_w]
          rfl
        refine pure_ (i := 2) (N := some 18) (v := ?_) (a' := ?_) #[true, true, true, false, false, false, false, false, false, false] rfl rfl (any_of HT_.out (by kernel_rfl)) (fun _ _ _ h => h) (Or.inl ⟨by rfl, ?_⟩) ?_ ?_
        rotate_left
        · intro w'
          go_simp
          with_reducible rfl
        rotate_left
        · simp only [Act.put, List.setIfInBounds_toArray, List.set_cons_zero, List.set_cons_succ, i64_w, i32_w]
          rfl
        refine pure_ (i := 4) (N := some 20) (v := ?_) (a' := ?_) #[true, true, true, false, true, false, false, false, false, false] rfl rfl (any_of HT_.out (by kernel_rfl)) (fun _ _ _ h => h) (Or.inl ⟨by rfl, ?_⟩) ?_ ?_
        rotate_left
        · intro w'
          go_simp
          with_reducible rfl
        rotate_left
        · simp only [Act.put, List.setIfInBounds_toArray, List.set_cons_zero, List.set_cons_succ, i64_w, i32_w]
          rfl
        refine pure_ (i := 5) (N := some 21) (v := ?_) (a' := ?_) #[true, true, true, false, true, true, false, false, false, false] rfl rfl (any_of HT_.out (by kernel_rfl)) (fun _ _ _ h => h) (Or.inl ⟨by rfl, ?_⟩) ?_ ?_
        rotate_left
        · intro w'
          go_simp
          with_reducible rfl
        rotate_left
        · simp only [Act.put, List.setIfInBounds_toArray, List.set_cons_zero, List.set_cons_succ, i64_w, i32_w]
          rfl
        refine pure_ (i := 6) (N := some 22) (v := ?_) (a' := ?_) #[true, true, true, false, true, true, true, false, false, false] rfl rfl (any_of HT_.out (by kernel_rfl)) (fun _ _ _ h => h) (Or.inl ⟨by rfl, ?_⟩) ?_ ?_
        rotate_left
        · intro w'
          go_simp
          with_reducible rfl
        rotate_left
        · simp only [Act.put, List.setIfInBounds_toArray, List.set_cons_zero, List.set_cons_succ, i64_w, i32_w]
          rfl
        refine take_ (i := 3) (N := some 19) (v := ?_) (a' := ?_) #[true, true, true, true, true, true, true, false, false, false] rfl rfl (take_ofW HT_.out HW_.out (by kernel_rfl)) (fun _ _ _ h => h) (Or.inl ⟨by rfl, ?_⟩) hHeld ?_ ?_
        rotate_left
        · rintro w' ⟨s0, s1⟩
          go_simp
          with_reducible rfl
        rotate_left
        · simp only [Act.put, List.setIfInBounds_toArray, List.set_cons_zero, List.set_cons_succ, i64_w, i32_w]
          rfl
        refine take_ (i := 7) (N := some 23) (v := ?_) (a' := ?_) #[true, true, true, true, true, true, true, true, false, false] rfl rfl (take_ofW HT_.out HW_.out (by kernel_rfl)) (fun _ _ _ h => h) (Or.inl ⟨by rfl, ?_⟩) hHeld ?_ ?_
        rotate_left
        · rintro w' ⟨s0, s1⟩
          go_simp
          with_reducible rfl
        rotate_left
        · simp only [Act.put, List.setIfInBounds_toArray, List.set_cons_zero, List.set_cons_succ, i64_w, i32_w]
          rfl
        refine one_ (i := 8) (N := some 24) #[true, true, true, true, true, true, true, true, true, false] rfl rfl (one_of HT_.out (by kernel_rfl)) (by decide) (fun K hK => ?_)
        refine goes_ Try.func14 (by kernel_rfl) rfl #[.slice X x.length cx, .slice Y y.length cy] (by rfl) rfl rfl (by simp only [List.map_toArray, List.map_cons, List.map_nil]; rfl) ?_
        with_reducible refine (HC.out).mono ?_
        rintro e w3 ⟨rfl, q', rfl⟩
        refine ⟨_, rfl, ?_⟩
        refine hK.out _ _ ⟨((HG.out q').1), ((HG.out q').2)⟩ (fun hHeld => ?_)
        clear hK K
        refine norm_ (a' := ?_) ?_ ?_
        rotate_left
        · show Act.put _ (some 24) _ = _
          simp only [Act.put, List.setIfInBounds_toArray, List.set_cons_zero, List.set_cons_succ, i64_w, i32_w]
          rfl
        refine pure_ (i := 9) (N := some 25) (v := ?_) (a' := ?_) #[true, true, true, true, true, true, true, true, true, true] rfl rfl (any_of HT_.out (by kernel_rfl)) (fun _ _ _ h => h) (Or.inl ⟨by rfl, ?_⟩) ?_ ?_
        rotate_left
        · intro w'
          go_simp
          with_reducible rfl
        rotate_left
        · simp only [Act.put, List.setIfInBounds_toArray, List.set_cons_zero, List.set_cons_succ, i64_w, i32_w]
          rfl
        refine done_ (done_of HT_.out (by kernel_rfl)) ?_
        clear hHeld HT_ HW_
        clear HG hcx hcy
        cases ans with
        | true =>
          have hxy : x = y := by simpa using HANS.out
          have hs := eq_snoc (a := a) (b := b) (j := j) (by have := HL.out.1; omega) (by have := HL.out.2; omega) HJ.out.2 (by rw [HX.out.1, HX.out.2, hxy])
          have HS := Lib.hid hs
          clear hs hxy
          go_wp2
          go_roundg k1
          case measure => omega
          case rel => exact ⟨j + 1, by go_num, Lib.hid ⟨by have := HJ.out.1; omega, HS.out, q + 1 + q', by simp only [World.drew, World.drewN]; try (congr 1; omega)⟩⟩
        | false =>
          have hxy : ¬ x = y := by simpa using HANS.out
          have hne : decide (a = b) = false := by
            rw [decide_eq_false_iff_not]
            intro he
            subst he
            exact hxy (HX.out.1.symm.trans HX.out.2)
          have HNE := Lib.hid hne
          clear hne hxy
          go_wp2
          go_ret
          exact ⟨by rw [HNE.out]; rfl, q + 1 + q', by simp only [World.drew, World.drewN]; try (congr 1; omega)⟩
      · have heq : decide (a = b) = true := by
          rw [List.take_of_length_le (by omega), List.take_of_length_le (by omega)] at htk
          simpa using htk
        have j0 : (n : Int) ≤ (j : Int) := by omega
        have HE := Lib.hid heq
        clear heq htk hjk hj hla hlb
        go_wp2
        go_ret
        exact ⟨by rw [HE.out]; rfl, q, rfl⟩
  · have e1 : ((a.length : Int) == (b.length : Int)) = false := beq_eq_false_iff_ne.2 (by omega)
    have e2 : ((a.length : Int) != (b.length : Int)) = true := by rw [bne, e1]; rfl
    have hne : decide (a = b) = false := by
      rw [decide_eq_false_iff_not]
      intro he
      exact hl (by rw [he])
    have HNE := Lib.hid hne
    have HL := Lib.hid hl
    clear ha hb hne hl
    go_enter Try.func13, Try.ntmps13
    go_wp2
    go_ret
    exact ⟨by rw [HNE.out]; rfl, 0, rfl⟩

set_option maxHeartbeats 4000000 in
set_option maxRecDepth 100000 in
theorem in_calls (w : World) (A : Option Addr) (ca : Nat) (a : List Int) (x : Int) (ha : RdI w A a) (hn : a.length ≤ 1000000) :
    Calls Try.prog 27 #[.slice A a.length ca, .int .i64 x] w fun e w' => e = .returned (.bool (a.contains x)) ∧ w' = w := by
  obtain ⟨n, hna⟩ : ∃ n, a.length = n := ⟨_, rfl⟩
  rw [hna] at hn ⊢
  have HA := Lib.hid ha
  have HL := Lib.hid hna
  clear ha hna
  go_enter Try.func27, Try.ntmps27
  go_wp2
  go_loopg [5] n (fun kq v5 w' => ∃ j : Nat, v5 = .int .i64 (j : Int) ∧ w' = w ∧ Hid (j + kq = n ∧ (a.take j).contains x = false))
  case atStart => exact ⟨0, rfl, rfl, Lib.hid ⟨by omega, by simp⟩⟩
  case round =>
    obtain ⟨j, rfl, rfl, hI⟩ := hrel
    obtain ⟨hjk, hno⟩ := hI.out
    clear hI
    have hla := HL.out
    by_cases hj : j < n
    · have hja : j < a.length := by omega
      obtain ⟨y, hy⟩ : ∃ y, a[j]'hja = y := ⟨_, rfl⟩
      obtain ⟨ba, rfl, hcx⟩ := HA.out j y (by rw [List.getElem?_eq_getElem hja, hy])
      obtain ⟨k1, rfl⟩ : ∃ k1, gk = k1 + 1 := ⟨gk - 1, by omega⟩
      have j0 : (0 : Int) ≤ (j : Int) := by omega
      have j1 : (j : Int) < (n : Int) := by omega
      have j2 : (n : Int) ≤ 1000000 := by omega
      have j3 : wrap64 ((j : Int) + 1) = (j : Int) + 1 := by unfold wrap64; omega
      by_cases hxy : y = x
      · have e1 : ((y : Int) == x) = true := by rw [hxy]; simp
        have hc : a.contains x = true := by
          rw [List.contains_iff_mem]
          exact hxy ▸ hy ▸ List.getElem_mem hja
        have HC := Lib.hid hc
        clear hc hno hy hjk hxy hla hja
        go_wp2
        go_ret
        exact ⟨by rw [HC.out]; rfl, rfl⟩
      · have e1 : ((y : Int) == x) = false := beq_eq_false_iff_ne.2 hxy
        have hs : (a.take (j + 1)).contains x = false := by
          rw [List.take_add_one, List.getElem?_eq_getElem hja, hy]
          simp only [Option.toList_some, List.contains_eq_any_beq, List.any_append, List.any_cons, List.any_nil] at *
          rw [hno]
          simp
          exact fun h => hxy h.symm
        have HS := Lib.hid (And.intro hjk hs)
        clear hs hno hy hjk hla hja
        go_wp2
        go_roundg k1
        case measure => omega
        case rel => exact ⟨j + 1, by go_num, rfl, Lib.hid ⟨by have := HS.out.1; omega, HS.out.2⟩⟩
    · have hc : a.contains x = false := by
        rw [List.take_of_length_le (by omega)] at hno
        exact hno
      have j0 : (n : Int) ≤ (j : Int) := by omega
      have HC := Lib.hid hc
      clear hc hno hjk hj hla
      go_wp2
      go_ret
      exact ⟨by rw [HC.out]; rfl, rfl⟩

/-- The place of the first list that has x, or -1. -/
def compI (ls : List (List Int)) (x : Int) : Int := match ls.findIdx? (·.contains x) with | some i => (i : Int) | none => -1

end Go.Proofs.Ythlmffjafeodlaa.Lw
