/- heap.Heap[int, int]: Peek, Drop of the first, Pop. -/
import Derived.Test.YthlmffjafeodlaaHp5
import Derived.Lib.SliceRun
namespace Go.Proofs.Ythlmffjafeodlaa.Hp
open Go Go.RowKit Go.Proofs.Ythlmffjafeodlaa.Mem Go.Proofs.Ythlmffjafeodlaa.Hq Go.Proofs.YthlmffjafeodlaaW.PrintWords Go.Proofs.YthlmffjafeodlaaW.PrintLast
attribute [local go_sem ↓] Go.wp_at_zero Go.wp_at_succ
set_option linter.unusedSimpArgs false
set_option linter.unusedVariables false

/-- The items behind the first one's going, ahead of the sinking. -/
def takeS (its : List Itm) : List Itm := (swapL its 0 (its.length - 1)).take (its.length - 1)
/-- The items behind the first one's going. -/
def dropS (k : Nat) (its : List Itm) : Option (List Itm) := if 1 < its.length then downS k (takeS its) 0 else some (takeS its)

theorem run_clear3 (w : World) (g o c : Nat) (ty : TypeId) (ht : w.there g o 3) :
    (Builtin.clear_ #[78] ty #[.slice (some ⟨g, o, none⟩) 1 c]).run Try.prog w = .ok (.tuple #[]) (w.setCells g o [.int .i64 0, .int .i64 0, .int .i64 0]) := by
  have hv : ∀ w, (zeroValue 82).run Try.prog w = .ok (.agg #[.int .i64 0, .int .i64 0, .int .i64 0]) w := fun w => by kernel_rfl
  have hzc : (Builtin.zeroCells (Value.agg #[.int .i64 0, .int .i64 0, .int .i64 0]).cells 1).toList = [.int .i64 0, .int .i64 0, .int .i64 0] := by kernel_rfl
  have hst := run_storeCells_cells (P := Try.prog) g o [.int .i64 0, .int .i64 0, .int .i64 0] 0 w (fun j hj => (ht j hj).1) (fun j hj => (ht j hj).2) (by simp [Value.oneCell'])
  simp only [Nat.add_zero] at hst
  simp [Builtin.clear_, run_underlying Try.underlying78, hv, hzc, hst]

set_option maxHeartbeats 4000000 in
set_option maxRecDepth 100000 in
theorem peek_none (w : World) (base hb mb : Nat) (iv : Value) (came : Int) (h : Hp w base hb mb iv [] came) :
    Calls Try.prog 38 #[.pointer (some ⟨hb, 0, none⟩)] w fun e w' => e = .returned (.tuple #[.int .i64 0, .int .i64 0, .bool false]) ∧ w' = w := by
  obtain ⟨A, cp, rfl⟩ := own_slice h.own
  have d1 := h.hat.cell 1 rfl
  have e1 : ((([] : List Itm).length : Int) == 0) = true := rfl
  clear h
  go_enter Try.func38, Try.ntmps38
  go_wp2
  go_ret3
  exact ⟨rfl, rfl⟩

def tb38_3.T3 : Bool × List (List Nat × List Nat) := (true, [([], []), ([0], [0]), ([1], [1]), ([2], [2]), ([3], [3]), ([4], [4]), ([5], [5]), ([], []), ([7], [7]), ([8], [8]), ([9], [9]), ([10], [10]), ([11], [11]), ([12], [12]), ([6, 0, 1, 2, 3, 4, 5, 6], [6]), ([13, 14, 0, 1, 2, 3, 4, 5, 6, 7, 8, 9, 10, 11, 12, 13, 14], [13]), ([15, 0, 1, 2, 3, 4, 5, 6, 7, 8, 9, 10, 11, 12, 13, 14, 15], [])])
def tb38_3.B3 : List Nat := [0, 1, 3, 7, 15, 31, 63, 0, 128, 384, 896, 1920, 3968, 8064, 127, 32767, 65535]
theorem tb38_3.tab3 : rtab .any (opsOf Try.f38 3) = tb38_3.T3 := by kernel_rfl
theorem tb38_3.bits3 : waitsOk tb38_3.T3.2 tb38_3.B3 = true := by kernel_rfl
set_option maxHeartbeats 4000000 in
set_option maxRecDepth 100000 in
theorem peek_some (w : World) (base hb mb : Nat) (iv : Value) (its : List Itm) (came : Int) (a : Itm) (h : Hp w base hb mb iv its came) (ha : its[0]? = some a) (hl : its.length ≤ 1000000) :
    Calls Try.prog 38 #[.pointer (some ⟨hb, 0, none⟩)] w fun e w' => e = .returned (.tuple #[.int .i64 a.1, .int .i64 a.2.1, .bool true]) ∧ w' = w.drew := by
  have hi : 0 < its.length := (List.getElem?_eq_some_iff.1 ha).1
  obtain ⟨A, cp, rfl⟩ := own_slice h.own
  obtain ⟨g, cap, he, hbg, hglt⟩ := h.own.form hi
  cases he
  have hown := h.own
  have hat := h.hat
  obtain ⟨n, hn⟩ : ∃ n, its.length = n := ⟨_, rfl⟩
  rw [hn] at hown hat hi
  have xa := enc_at its 0 a ha
  have i0 : (0 : Int) < (n : Int) := by omega
  have e1 : ((n : Int) == 0) = false := beq_eq_false_iff_ne.2 (by omega)
  have e3 : ¬ ((n : Int) = 0) := by omega
  have c0 := (hown.cellAt 0 (by omega)).trans xa.1
  have c1 := (hown.cellAt 1 (by omega)).trans xa.2.1
  have d1 := hat.cell 1 rfl
  clear h ha hown hat xa hbg hglt
  go_enter Try.func38, Try.ntmps38
  go_wp2
  refine start_ (n := 17) (S := fun w' => w'.cell? ⟨hb, 1, none⟩ = some (.slice (some ⟨g, 0, none⟩) n cp) ∧ w'.cell? ⟨g, 0, none⟩ = some (.int .i64 a.1) ∧ w'.cell? ⟨g, 1, none⟩ = some (.int .i64 a.2.1)) (ds := []) #[false, false, false, false, false, false, false, false, false, false, false, false, false, false, false, false, false] (by kernel_rfl) rfl rfl ⟨d1, c0, c1⟩ (fun hHeld => ?_)
  refine with_tabW tb38_3.tab3 tb38_3.bits3 (fun HT_ HW_ => ?_)
  refine pure_ (i := 0) (N := some 13) (v := ?_) (a' := ?_) #[true, false, false, false, false, false, false, false, false, false, false, false, false, false, false, false, false] rfl rfl (any_of HT_.out (by kernel_rfl)) (fun _ _ _ h => h) (Or.inl ⟨by rfl, ?_⟩) ?_ ?_
  rotate_left
  · intro w'
    go_simp
    with_reducible rfl
  rotate_left
  · simp only [Act.put, List.setIfInBounds_toArray, List.set_cons_zero, List.set_cons_succ, i64_w, i32_w]
    rfl
  refine pure_ (i := 1) (N := some 14) (v := ?_) (a' := ?_) #[true, true, false, false, false, false, false, false, false, false, false, false, false, false, false, false, false] rfl rfl (any_of HT_.out (by kernel_rfl)) (fun _ _ _ h => h) (Or.inl ⟨by rfl, ?_⟩) ?_ ?_
  rotate_left
  · intro w'
    go_simp
    with_reducible rfl
  rotate_left
  · simp only [Act.put, List.setIfInBounds_toArray, List.set_cons_zero, List.set_cons_succ, i64_w, i32_w]
    rfl
  refine pure_ (i := 2) (N := some 15) (v := ?_) (a' := ?_) #[true, true, true, false, false, false, false, false, false, false, false, false, false, false, false, false, false] rfl rfl (any_of HT_.out (by kernel_rfl)) (fun _ _ _ h => h) (Or.inl ⟨by rfl, ?_⟩) ?_ ?_
  rotate_left
  · intro w'
    go_simp
    with_reducible rfl
  rotate_left
  · simp only [Act.put, List.setIfInBounds_toArray, List.set_cons_zero, List.set_cons_succ, i64_w, i32_w]
    rfl
  refine pure_ (i := 7) (N := some 20) (v := ?_) (a' := ?_) #[true, true, true, false, false, false, false, true, false, false, false, false, false, false, false, false, false] rfl rfl (any_of HT_.out (by kernel_rfl)) (fun _ _ _ h => h) (Or.inl ⟨by rfl, ?_⟩) ?_ ?_
  rotate_left
  · intro w'
    go_simp
    with_reducible rfl
  rotate_left
  · simp only [Act.put, List.setIfInBounds_toArray, List.set_cons_zero, List.set_cons_succ, i64_w, i32_w]
    rfl
  refine pure_ (i := 8) (N := some 21) (v := ?_) (a' := ?_) #[true, true, true, false, false, false, false, true, true, false, false, false, false, false, false, false, false] rfl rfl (any_of HT_.out (by kernel_rfl)) (fun _ _ _ h => h) (Or.inl ⟨by rfl, ?_⟩) ?_ ?_
  rotate_left
  · intro w'
    go_simp
    with_reducible rfl
  rotate_left
  · simp only [Act.put, List.setIfInBounds_toArray, List.set_cons_zero, List.set_cons_succ, i64_w, i32_w]
    rfl
  refine pure_ (i := 9) (N := some 22) (v := ?_) (a' := ?_) #[true, true, true, false, false, false, false, true, true, true, false, false, false, false, false, false, false] rfl rfl (any_of HT_.out (by kernel_rfl)) (fun _ _ _ h => h) (Or.inl ⟨by rfl, ?_⟩) ?_ ?_
  rotate_left
  · intro w'
    go_simp
    with_reducible rfl
  rotate_left
  · simp only [Act.put, List.setIfInBounds_toArray, List.set_cons_zero, List.set_cons_succ, i64_w, i32_w]
    rfl
  refine take_ (i := 3) (N := some 16) (v := ?_) (a' := ?_) #[true, true, true, true, false, false, false, true, true, true, false, false, false, false, false, false, false] rfl rfl (take_ofW HT_.out HW_.out (by kernel_rfl)) (fun _ _ _ h => h) (Or.inl ⟨by rfl, ?_⟩) hHeld ?_ ?_
  rotate_left
  · rintro w' ⟨s0, s1, s2⟩
    go_simp
    with_reducible rfl
  rotate_left
  · simp only [Act.put, List.setIfInBounds_toArray, List.set_cons_zero, List.set_cons_succ, i64_w, i32_w]
    rfl
  refine pure_ (i := 4) (N := some 17) (v := ?_) (a' := ?_) #[true, true, true, true, true, false, false, true, true, true, false, false, false, false, false, false, false] rfl rfl (any_of HT_.out (by kernel_rfl)) (fun _ _ _ h => h) (Or.inl ⟨by rfl, ?_⟩) ?_ ?_
  rotate_left
  · intro w'
    go_simp
    with_reducible rfl
  rotate_left
  · simp only [Act.put, List.setIfInBounds_toArray, List.set_cons_zero, List.set_cons_succ, i64_w, i32_w]
    rfl
  refine pure_ (i := 5) (N := some 18) (v := ?_) (a' := ?_) #[true, true, true, true, true, true, false, true, true, true, false, false, false, false, false, false, false] rfl rfl (any_of HT_.out (by kernel_rfl)) (fun _ _ _ h => h) (Or.inl ⟨by rfl, ?_⟩) ?_ ?_
  rotate_left
  · intro w'
    go_simp
    with_reducible rfl
  rotate_left
  · simp only [Act.put, List.setIfInBounds_toArray, List.set_cons_zero, List.set_cons_succ, i64_w, i32_w]
    rfl
  refine take_ (i := 6) (N := some 19) (v := ?_) (a' := ?_) #[true, true, true, true, true, true, true, true, true, true, false, false, false, false, false, false, false] rfl rfl (take_ofW HT_.out HW_.out (by kernel_rfl)) (fun _ _ _ h => h) (Or.inl ⟨by rfl, ?_⟩) hHeld ?_ ?_
  rotate_left
  · rintro w' ⟨s0, s1, s2⟩
    go_simp
    with_reducible rfl
  rotate_left
  · simp only [Act.put, List.setIfInBounds_toArray, List.set_cons_zero, List.set_cons_succ, i64_w, i32_w]
    rfl
  refine pure_ (i := 14) (N := some 2) (v := ?_) (a' := ?_) #[true, true, true, true, true, true, true, true, true, true, false, false, false, false, true, false, false] rfl rfl (any_of HT_.out (by kernel_rfl)) (fun _ _ _ h => h) (Or.inl ⟨by rfl, ?_⟩) ?_ ?_
  rotate_left
  · intro w'
    go_simp
    with_reducible rfl
  rotate_left
  · simp only [Act.put, List.setIfInBounds_toArray, List.set_cons_zero, List.set_cons_succ, i64_w, i32_w]
    rfl
  refine take_ (i := 10) (N := some 23) (v := ?_) (a' := ?_) #[true, true, true, true, true, true, true, true, true, true, true, false, false, false, true, false, false] rfl rfl (take_ofW HT_.out HW_.out (by kernel_rfl)) (fun _ _ _ h => h) (Or.inl ⟨by rfl, ?_⟩) hHeld ?_ ?_
  rotate_left
  · rintro w' ⟨s0, s1, s2⟩
    go_simp
    with_reducible rfl
  rotate_left
  · simp only [Act.put, List.setIfInBounds_toArray, List.set_cons_zero, List.set_cons_succ, i64_w, i32_w]
    rfl
  refine pure_ (i := 11) (N := some 24) (v := ?_) (a' := ?_) #[true, true, true, true, true, true, true, true, true, true, true, true, false, false, true, false, false] rfl rfl (any_of HT_.out (by kernel_rfl)) (fun _ _ _ h => h) (Or.inl ⟨by rfl, ?_⟩) ?_ ?_
  rotate_left
  · intro w'
    go_simp
    with_reducible rfl
  rotate_left
  · simp only [Act.put, List.setIfInBounds_toArray, List.set_cons_zero, List.set_cons_succ, i64_w, i32_w]
    rfl
  refine pure_ (i := 12) (N := some 25) (v := ?_) (a' := ?_) #[true, true, true, true, true, true, true, true, true, true, true, true, true, false, true, false, false] rfl rfl (any_of HT_.out (by kernel_rfl)) (fun _ _ _ h => h) (Or.inl ⟨by rfl, ?_⟩) ?_ ?_
  rotate_left
  · intro w'
    go_simp
    with_reducible rfl
  rotate_left
  · simp only [Act.put, List.setIfInBounds_toArray, List.set_cons_zero, List.set_cons_succ, i64_w, i32_w]
    rfl
  refine take_ (i := 13) (N := some 26) (v := ?_) (a' := ?_) #[true, true, true, true, true, true, true, true, true, true, true, true, true, true, true, false, false] rfl rfl (take_ofW HT_.out HW_.out (by kernel_rfl)) (fun _ _ _ h => h) (Or.inl ⟨by rfl, ?_⟩) hHeld ?_ ?_
  rotate_left
  · rintro w' ⟨s0, s1, s2⟩
    go_simp
    with_reducible rfl
  rotate_left
  · simp only [Act.put, List.setIfInBounds_toArray, List.set_cons_zero, List.set_cons_succ, i64_w, i32_w]
    rfl
  refine pure_ (i := 15) (N := some 3) (v := ?_) (a' := ?_) #[true, true, true, true, true, true, true, true, true, true, true, true, true, true, true, true, false] rfl rfl (any_of HT_.out (by kernel_rfl)) (fun _ _ _ h => h) (Or.inl ⟨by rfl, ?_⟩) ?_ ?_
  rotate_left
  · intro w'
    go_simp
    with_reducible rfl
  rotate_left
  · simp only [Act.put, List.setIfInBounds_toArray, List.set_cons_zero, List.set_cons_succ, i64_w, i32_w]
    rfl
  refine pure_ (i := 16) (N := some 4) (v := ?_) (a' := ?_) #[true, true, true, true, true, true, true, true, true, true, true, true, true, true, true, true, true] rfl rfl (any_of HT_.out (by kernel_rfl)) (fun _ _ _ h => h) (Or.inl ⟨by rfl, ?_⟩) ?_ ?_
  rotate_left
  · intro w'
    go_simp
    with_reducible rfl
  rotate_left
  · simp only [Act.put, List.setIfInBounds_toArray, List.set_cons_zero, List.set_cons_succ, i64_w, i32_w]
    rfl
  refine done_ (done_of HT_.out (by kernel_rfl)) ?_
  clear hHeld HT_ HW_
  go_wp2
  go_ret3
  exact ⟨rfl, rfl⟩

theorem swap_last {its : List Itm} {m : Nat} {a : Itm} (hn : its.length = m + 1) (ha : its[0]? = some a) : swapL its 0 m = takeS its ++ [a] := by
  have hl := swapL_length its 0 m
  have h1 : (swapL its 0 m)[m]? = some a := by rw [swapL_get its (by omega) (by omega), if_pos rfl, ha]
  have h2 : takeS its = (swapL its 0 m).take m := by rw [takeS, hn, Nat.add_sub_cancel]
  rw [h2]
  apply List.ext_getElem?
  intro j
  by_cases hj : j < m
  · rw [List.getElem?_append_left (by simp; omega), List.getElem?_take, if_pos hj]
  · by_cases hjm : j = m
    · rw [hjm, h1, List.getElem?_append_right (by simp; omega)]
      simp [hl, hn]
    · rw [List.getElem?_eq_none (by omega), List.getElem?_eq_none (by simp; omega)]
theorem takeS_length {its : List Itm} {m : Nat} (hn : its.length = m + 1) : (takeS its).length = m := by
  rw [takeS, List.length_take, swapL_length, hn]; omega

def DropPost (w : World) (base hb mb : Nat) (iv : Value) (R : List Itm) (came : Int) (w' : World) : Prop :=
  ∃ iv', Hp w' base hb mb iv' R came ∧ HK hb mb iv w w' ∧ iv'.ownBlock = iv.ownBlock

set_option maxHeartbeats 4000000 in
set_option maxRecDepth 100000 in
theorem drop_calls (w : World) (base hb mb k : Nat) (iv : Value) (its R : List Itm) (came : Int) (a : Itm) (h : Hp w base hb mb iv its came) (ha : its[0]? = some a) (hl : its.length < 1000000) (hR : dropS k its = some R) :
    Calls Try.prog 39 #[.pointer (some ⟨hb, 0, none⟩), .int .i64 a.1] w fun e w' => e = .returned (.bool true) ∧ DropPost w base hb mb iv R came w' := by
  have hi : 0 < its.length := (List.getElem?_eq_some_iff.1 ha).1
  obtain ⟨A, cp, rfl⟩ := own_slice h.own
  obtain ⟨g, cap, he, hbg, hglt⟩ := h.own.form hi
  cases he
  obtain ⟨m, hm⟩ : ∃ m, its.length = m + 1 := ⟨its.length - 1, by omega⟩
  obtain ⟨b, hb'⟩ : ∃ b, its[m]? = some b := ⟨_, List.getElem?_eq_getElem (by omega)⟩
  obtain ⟨f, hmp, hfit⟩ := h.mp
  have hf0 : f a.1 = some 0 := (hfit a.1 0).2 ⟨0, rfl, a, ha, rfl⟩
  have hLK := hmp.lookup_ok (P := Try.prog) (T := 77) Try.underlying77 Try.underlying3 zero_int a.1
  rw [hf0] at hLK
  simp only [Option.getD_some, Option.isSome_some] at hLK
  have hcap : m + 1 ≤ cp := by
    rcases h.own.2 with ⟨h1, _⟩ | ⟨_, _, _, h1, _, _, h2, _⟩
    · cases h1
    · cases h1; omega
  rw [hm] at h ⊢
  have d1 := h.hat.cell 1 rfl
  have d2 := h.hat.cell 2 rfl
  have e1 : wrap64 (m : Int) = (m : Int) := by unfold wrap64; omega
  have HH := Lib.hid h
  have HA := Lib.hid (And.intro ha hb')
  have HM := Lib.hid (And.intro hm hl)
  have HR := Lib.hid hR
  have HC := Lib.hid hcap
  clear h hmp hfit hf0 hi hbg hglt ha hb' hm hl hR hcap
  go_enter Try.func39, Try.ntmps39
  go_wp2_with fail
  refine (swap_calls _ base hb mb 0 m (.slice (some ⟨g, 0, none⟩) (m + 1) cp) its came a b HH.out HA.out.1 HA.out.2 (by have := HM.out.2; omega)).mono ?_
  rintro e w1 ⟨rfl, hp1, hk1⟩
  rw [swap_last HM.out.1 HA.out.1] at hp1
  obtain ⟨f, hmp, hfit⟩ := hp1.mp
  have hat := hp1.hat
  have hown := hp1.own
  have hlt1 := takeS_length HM.out.1
  have hln : (takeS its ++ [a]).length = m + 1 := by rw [List.length_append, hlt1]; rfl
  rw [hln] at hown
  obtain ⟨ob, hdel, hmp1⟩ := MP.delete (P := Try.prog) (T := 77) hmp Try.underlying77 Try.underlying3 a.1 0 3
  have hbm : hb ≠ mb := hmp.ne hat
  have hown1 := own_putObj (o := ob) hown hp1.lm
  have hat1 := hat.putObj (o := ob) hbm
  have hclr : ∀ c, (Builtin.clear_ #[78] 0 #[.slice (some ⟨g, m * 3, none⟩) 1 c]).run Try.prog (putObj w1 mb ob) = _ := fun c => run_clear3 (putObj w1 mb ob) g (m * 3) c 0 (own_there hown1 (show m < m + 1 by omega))
  have hown2 := own_put (x := (0, 0, 0)) hown1 m
  have d1 := hat.cell 1 rfl
  have d2 := hat.cell 2 rfl
  have d1' := hat1.cell 1 rfl
  have hbg : base ≤ g := (hown.lt g rfl).1
  have hlow := And.intro hp1.lb hp1.lm
  have hat2 := hat1.grown hown2.2 (by have := hlow.1; simp; omega)
  have d1'' := hat2.cell 1 rfl
  have f1'' := hat2.free 1
  have hmp2 := (hmp1.grown hown2.2 (by have := hlow.2; simp; omega)).off (i := 1) (u := .slice (some ⟨g, 0, none⟩) m cp) hbm
  have hk2 := ((hk1.put ob).grown hown2.2 rfl).set 1 (.slice (some ⟨g, 0, none⟩) m cp)
  have hset : (takeS its ++ [a]).set m (0, 0, 0) = takeS its ++ [(0, 0, 0)] := by
    rw [List.set_append_right _ _ (by omega), hlt1, Nat.sub_self]
    rfl
  have hown3 := hown2.1
  rw [hset, enc_append] at hown3
  have hown4 := (ownsRow_pop (by rw [enc_length, hlt1]) hown3).setB (i := 1) (u := .slice (some ⟨g, 0, none⟩) m cp) hlow.1
  have hfit2 : Fits (upd f a.1 none) (takeS its) := hfit.pop
  have hp2 : Hp (((putObj w1 mb ob).setCells g (m * 3) [.int .i64 0, .int .i64 0, .int .i64 0]).setCell ⟨hb, 1, none⟩ (.slice (some ⟨g, 0, none⟩) m cp)) base hb mb (.slice (some ⟨g, 0, none⟩) m cp) (takeS its) came := by
    refine ⟨?_, ?_, ⟨_, hmp2, hfit2⟩, hlow.1, hlow.2⟩
    · exact hat2.put rfl
    · rw [hlt1]; exact hown4
  have HP2 := Lib.hid hp2
  have HK2 := Lib.hid hk2
  have HLT := Lib.hid hlt1
  have m0 : (0 : Int) ≤ (m : Int) := by omega
  have m4 : m ≤ cp := by have := HC.out; omega
  have m5 : (m : Int) ≤ (cp : Int) := by omega
  have m6 : ¬ (cp = m) := by have := HC.out; omega
  clear hp1 hk1 hat hown hlt1 hln hmp hfit hmp1 hbm hown1 hat1 hown2 hbg hlow hat2 hmp2 hk2 hset hown3 hown4 hfit2 hp2
  by_cases h0 : 0 < m
  · have hR := HR.out
    rw [dropS, if_pos (by have := HM.out.1; omega)] at hR
    have HR2 := Lib.hid hR
    clear hR
    go_wp2_with fail
    refine (up_calls _ base hb mb 0 1 _ (takeS its) (takeS its) _ HP2.out (by have := HLT.out; have := HM.out; omega) (by have := HLT.out; rw [upS, if_pos (by omega)]; rfl)).mono ?_
    rintro e w3 ⟨rfl, hp3, hk3⟩
    have HP3 := Lib.hid hp3
    have HK3 := Lib.hid hk3
    clear hp3 hk3 hclr hdel
    go_wp2_with fail
    refine (down_calls _ base hb mb 0 k _ (takeS its) R _ HP3.out HR2.out).mono ?_
    rintro e w4 ⟨rfl, hp4, hk4⟩
    have HP4 := Lib.hid hp4
    have HK4 := Lib.hid hk4
    clear hp4 hk4
    go_wp2_with fail
    go_ret
    exact ⟨rfl, _, HP4.out, (HK2.out.trans' HK3.out (Or.inl rfl)).trans' HK4.out (Or.inl rfl), rfl⟩
  · have hR := HR.out
    rw [dropS, if_neg (by have := HM.out.1; omega)] at hR
    obtain rfl := Option.some.inj hR
    clear hR
    go_wp2_with fail
    go_ret
    exact ⟨rfl, _, HP2.out, HK2.out, rfl⟩

set_option maxHeartbeats 4000000 in
set_option maxRecDepth 100000 in
theorem pop_none (w : World) (base hb mb : Nat) (iv : Value) (came : Int) (h : Hp w base hb mb iv [] came) :
    Calls Try.prog 26 #[.pointer (some ⟨hb, 0, none⟩)] w fun e w' => e = .returned (.tuple #[.int .i64 0, .int .i64 0, .bool false]) ∧ w' = w := by
  have HH := Lib.hid h
  clear h
  go_enter Try.func26, Try.ntmps26
  go_wp2_with fail
  refine (peek_none _ base hb mb iv came HH.out).mono ?_
  rintro e w1 ⟨rfl, rfl⟩
  go_wp2_with fail
  go_ret3
  exact ⟨rfl, rfl⟩

set_option maxHeartbeats 4000000 in
set_option maxRecDepth 100000 in
theorem pop_some (w : World) (base hb mb k : Nat) (iv : Value) (its R : List Itm) (came : Int) (a : Itm) (h : Hp w base hb mb iv its came) (ha : its[0]? = some a) (hl : its.length < 1000000) (hR : dropS k its = some R) :
    Calls Try.prog 26 #[.pointer (some ⟨hb, 0, none⟩)] w fun e w' => e = .returned (.tuple #[.int .i64 a.1, .int .i64 a.2.1, .bool true]) ∧ DropPost w base hb mb iv R came w' := by
  have HH := Lib.hid (And.intro h (And.intro ha (And.intro hl hR)))
  clear h ha hl hR
  go_enter Try.func26, Try.ntmps26
  go_wp2_with fail
  refine (peek_some _ base hb mb iv its came a HH.out.1 HH.out.2.1 (by have := HH.out.2.2.1; omega)).mono ?_
  rintro e w1 ⟨rfl, rfl⟩
  go_wp2_with fail
  refine (drop_calls _ base hb mb k iv its R came a HH.out.1.drew HH.out.2.1 HH.out.2.2.1 HH.out.2.2.2).mono ?_
  rintro e w2 ⟨rfl, hp⟩
  have HP := Lib.hid hp
  clear hp
  go_wp2_with fail
  go_ret3
  obtain ⟨iv', h1, h2, h3⟩ := HP.out
  exact ⟨rfl, iv', h1, ((HK.refl hb mb iv w).drew).trans h2, h3⟩

end Go.Proofs.Ythlmffjafeodlaa.Hp
