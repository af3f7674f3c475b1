/- heap.Heap[int, int]: Peek, Drop of the first, Pop. -/
import Derived.Test.YtdohfjidnbhfnaaGo17
import Derived.Lib.SliceRun
import Derived.Test.YtdohfjidnbhfnaaGo14
import Derived.Test.YtdohfjidnbhfnaaGo4
import Derived.Test.YtdohfjidnbhfnaaGo10
namespace Go.Proofs.Ytdohfjidnbhfnaa.Hp
open Go Go.RowKit Go.Proofs.Ytdohfjidnbhfnaa.Mem Go.Proofs.Ytdohfjidnbhfnaa.Hq Go.Proofs.YtdohfjidnbhfnaaW.PrintWords Go.Proofs.YtdohfjidnbhfnaaW.PrintLast
attribute [local go_sem ↓] Go.wp_at_zero Go.wp_at_succ
set_option linter.unusedSimpArgs false
set_option linter.unusedVariables false

def takeS (its : List Itm) : List Itm := (swapL its 0 (its.length - 1)).take (its.length - 1)
def dropS (k : Nat) (its : List Itm) : Option (List Itm) := if 1 < its.length then downS k (takeS its) 0 else some (takeS its)

theorem run_clear3 (w : World) (g o c : Nat) (ty : TypeId) (ht : w.there g o 3) :
    (Builtin.clear_ #[135] ty #[.slice (some ⟨g, o, none⟩) 1 c]).run Try.prog w = .ok (.tuple #[]) (w.setCells g o [.int .i64 0, .int .i64 0, .int .i64 0]) := by
  have hv : ∀ w, (zeroValue 139).run Try.prog w = .ok (.agg #[.int .i64 0, .int .i64 0, .int .i64 0]) w := fun w => by kernel_rfl
  have hzc : (Builtin.zeroCells (Value.agg #[.int .i64 0, .int .i64 0, .int .i64 0]).cells 1).toList = [.int .i64 0, .int .i64 0, .int .i64 0] := by kernel_rfl
  have hst := run_storeCells_cells (P := Try.prog) g o [.int .i64 0, .int .i64 0, .int .i64 0] 0 w (fun j hj => (ht j hj).1) (fun j hj => (ht j hj).2) (by simp [Value.oneCell'])
  simp only [Nat.add_zero] at hst
  simp [Builtin.clear_, run_underlying Try.underlying135, hv, hzc, hst]

set_option maxHeartbeats 4000000 in
set_option maxRecDepth 100000 in
theorem peek_none (w : World) (base hb mb : Nat) (iv : Value) (came : Int) (h : Hp w base hb mb iv [] came) :
    Calls Try.prog 76 #[.pointer (some ⟨hb, 0, none⟩)] w fun e w' => e = .returned (.tuple #[.int .i64 0, .int .i64 0, .bool false]) ∧ w' = w := by
  obtain ⟨A, cp, rfl⟩ := own_slice h.own
  have d1 := h.hat.cell 1 rfl
  have e1 : ((([] : List Itm).length : Int) == 0) = true := rfl
  clear h
  go_enter Try.func76, Try.ntmps76
  go_wp2
  go_ret3
  exact ⟨rfl, rfl⟩

def tb76_3.T3 : Bool × List (List Nat × List Nat) := (true, [([], []), ([0], [0]), ([1], [1]), ([2], [2]), ([3], [3]), ([4], [4]), ([5], [5]), ([], []), ([7], [7]), ([8], [8]), ([9], [9]), ([10], [10]), ([11], [11]), ([12], [12]), ([6, 0, 1, 2, 3, 4, 5, 6], [6]), ([13, 14, 0, 1, 2, 3, 4, 5, 6, 7, 8, 9, 10, 11, 12, 13, 14], [13]), ([15, 0, 1, 2, 3, 4, 5, 6, 7, 8, 9, 10, 11, 12, 13, 14, 15], [])])
def tb76_3.B3 : List Nat := [0, 1, 3, 7, 15, 31, 63, 0, 128, 384, 896, 1920, 3968, 8064, 127, 32767, 65535]
theorem tb76_3.tab3 : rtab .any (opsOf Try.f76 3) = tb76_3.T3 := by kernel_rfl
theorem tb76_3.bits3 : waitsOk tb76_3.T3.2 tb76_3.B3 = true := by kernel_rfl
set_option maxHeartbeats 4000000 in
set_option maxRecDepth 100000 in
theorem peek_some (w : World) (base hb mb : Nat) (iv : Value) (its : List Itm) (came : Int) (a : Itm) (h : Hp w base hb mb iv its came) (ha : its[0]? = some a) (hl : its.length ≤ 1000000) :
    Calls Try.prog 76 #[.pointer (some ⟨hb, 0, none⟩)] w fun e w' => e = .returned (.tuple #[.int .i64 a.1, .int .i64 a.2.1, .bool true]) ∧ w' = w.drew := by
  have hi : 0 < its.length := (List.getElem?_eq_some_iff.1 ha).1
  obtain ⟨A, cp, rfl⟩ := own_slice h.own
  obtain ⟨g, cap, he, hbg, hglt⟩ := h.own.form hi
  cases he
  have hown := h.own
  have hat := h.hat
  obtain ⟨n, hn⟩ : ∃ n, its.length = n := ⟨_, rfl⟩
  rw [hn] at hown hat hi
  have xa := enc_at its 0 a ha
  have i0 : (0 : Int) < (n : Int) := by omega
  have e1 : ((n : Int) == 0) = false := beq_eq_false_iff_ne.2 (by omega)
  have e3 : ¬ ((n : Int) = 0) := by omega
  have c0 := (hown.cellAt 0 (by omega)).trans xa.1
  have c1 := (hown.cellAt 1 (by omega)).trans xa.2.1
  have d1 := hat.cell 1 rfl
  clear h ha hown hat xa hbg hglt
  go_enter Try.func76, Try.ntmps76
  go_wp2
  refine start_ (n := 17) (S := fun w' => w'.cell? ⟨hb, 1, none⟩ = some (.slice (some ⟨g, 0, none⟩) n cp) ∧ w'.cell? ⟨g, 0, none⟩ = some (.int .i64 a.1) ∧ w'.cell? ⟨g, 1, none⟩ = some (.int .i64 a.2.1)) (ds := []) (bA 17 0) (by kernel_rfl) rfl rfl ⟨d1, c0, c1⟩ (fun hHeld => ?_)
  refine with_tabW tb76_3.tab3 tb76_3.bits3 (fun HT_ HW_ => ?_)
  refine pure_ (i := 0) (N := some 13) (v := ?_) (a' := ?_) (bA 17 1) rfl rfl (any_of HT_.out (by kernel_rfl)) (fun _ _ _ h => h) (Or.inl ⟨by rfl, ?_⟩) ?_ ?_
  rotate_left; · intro w'; go_simp; with_reducible rfl
  rotate_left; · simp only [Act.put, pA, pB, pC, pD, pE]; rfl
  refine pure_ (i := 1) (N := some 14) (v := ?_) (a' := ?_) (bA 17 3) rfl rfl (any_of HT_.out (by kernel_rfl)) (fun _ _ _ h => h) (Or.inl ⟨by rfl, ?_⟩) ?_ ?_
  rotate_left; · intro w'; go_simp; with_reducible rfl
  rotate_left; · simp only [Act.put, pA, pB, pC, pD, pE]; rfl
  refine pure_ (i := 2) (N := some 15) (v := ?_) (a' := ?_) (bA 17 7) rfl rfl (any_of HT_.out (by kernel_rfl)) (fun _ _ _ h => h) (Or.inl ⟨by rfl, ?_⟩) ?_ ?_
  rotate_left; · intro w'; go_simp; with_reducible rfl
  rotate_left; · simp only [Act.put, pA, pB, pC, pD, pE]; rfl
  refine pure_ (i := 7) (N := some 20) (v := ?_) (a' := ?_) (bA 17 135) rfl rfl (any_of HT_.out (by kernel_rfl)) (fun _ _ _ h => h) (Or.inl ⟨by rfl, ?_⟩) ?_ ?_
  rotate_left; · intro w'; go_simp; with_reducible rfl
  rotate_left; · simp only [Act.put, pA, pB, pC, pD, pE]; rfl
  refine pure_ (i := 8) (N := some 21) (v := ?_) (a' := ?_) (bA 17 391) rfl rfl (any_of HT_.out (by kernel_rfl)) (fun _ _ _ h => h) (Or.inl ⟨by rfl, ?_⟩) ?_ ?_
  rotate_left; · intro w'; go_simp; with_reducible rfl
  rotate_left; · simp only [Act.put, pA, pB, pC, pD, pE]; rfl
  refine pure_ (i := 9) (N := some 22) (v := ?_) (a' := ?_) (bA 17 903) rfl rfl (any_of HT_.out (by kernel_rfl)) (fun _ _ _ h => h) (Or.inl ⟨by rfl, ?_⟩) ?_ ?_
  rotate_left; · intro w'; go_simp; with_reducible rfl
  rotate_left; · simp only [Act.put, pA, pB, pC, pD, pE]; rfl
  refine take_ (i := 3) (N := some 16) (v := ?_) (a' := ?_) (bA 17 911) rfl rfl (take_ofW HT_.out HW_.out (by kernel_rfl)) (fun _ _ _ h => h) (Or.inl ⟨by rfl, ?_⟩) hHeld ?_ ?_
  rotate_left
  · rintro w' ⟨s0, s1, s2⟩
    go_simp; with_reducible rfl
  rotate_left; · simp only [Act.put, pA, pB, pC, pD, pE]; rfl
  refine pure_ (i := 4) (N := some 17) (v := ?_) (a' := ?_) (bA 17 927) rfl rfl (any_of HT_.out (by kernel_rfl)) (fun _ _ _ h => h) (Or.inl ⟨by rfl, ?_⟩) ?_ ?_
  rotate_left; · intro w'; go_simp; with_reducible rfl
  rotate_left; · simp only [Act.put, pA, pB, pC, pD, pE]; rfl
  refine pure_ (i := 5) (N := some 18) (v := ?_) (a' := ?_) (bA 17 959) rfl rfl (any_of HT_.out (by kernel_rfl)) (fun _ _ _ h => h) (Or.inl ⟨by rfl, ?_⟩) ?_ ?_
  rotate_left; · intro w'; go_simp; with_reducible rfl
  rotate_left; · simp only [Act.put, pA, pB, pC, pD, pE]; rfl
  refine take_ (i := 6) (N := some 19) (v := ?_) (a' := ?_) (bA 17 1023) rfl rfl (take_ofW HT_.out HW_.out (by kernel_rfl)) (fun _ _ _ h => h) (Or.inl ⟨by rfl, ?_⟩) hHeld ?_ ?_
  rotate_left
  · rintro w' ⟨s0, s1, s2⟩
    go_simp; with_reducible rfl
  rotate_left; · simp only [Act.put, pA, pB, pC, pD, pE]; rfl
  refine pure_ (i := 14) (N := some 2) (v := ?_) (a' := ?_) (bA 17 17407) rfl rfl (any_of HT_.out (by kernel_rfl)) (fun _ _ _ h => h) (Or.inl ⟨by rfl, ?_⟩) ?_ ?_
  rotate_left; · intro w'; go_simp; with_reducible rfl
  rotate_left; · simp only [Act.put, pA, pB, pC, pD, pE]; rfl
  refine take_ (i := 10) (N := some 23) (v := ?_) (a' := ?_) (bA 17 18431) rfl rfl (take_ofW HT_.out HW_.out (by kernel_rfl)) (fun _ _ _ h => h) (Or.inl ⟨by rfl, ?_⟩) hHeld ?_ ?_
  rotate_left
  · rintro w' ⟨s0, s1, s2⟩
    go_simp; with_reducible rfl
  rotate_left; · simp only [Act.put, pA, pB, pC, pD, pE]; rfl
  refine pure_ (i := 11) (N := some 24) (v := ?_) (a' := ?_) (bA 17 20479) rfl rfl (any_of HT_.out (by kernel_rfl)) (fun _ _ _ h => h) (Or.inl ⟨by rfl, ?_⟩) ?_ ?_
  rotate_left; · intro w'; go_simp; with_reducible rfl
  rotate_left; · simp only [Act.put, pA, pB, pC, pD, pE]; rfl
  refine pure_ (i := 12) (N := some 25) (v := ?_) (a' := ?_) (bA 17 24575) rfl rfl (any_of HT_.out (by kernel_rfl)) (fun _ _ _ h => h) (Or.inl ⟨by rfl, ?_⟩) ?_ ?_
  rotate_left; · intro w'; go_simp; with_reducible rfl
  rotate_left; · simp only [Act.put, pA, pB, pC, pD, pE]; rfl
  refine take_ (i := 13) (N := some 26) (v := ?_) (a' := ?_) (bA 17 32767) rfl rfl (take_ofW HT_.out HW_.out (by kernel_rfl)) (fun _ _ _ h => h) (Or.inl ⟨by rfl, ?_⟩) hHeld ?_ ?_
  rotate_left
  · rintro w' ⟨s0, s1, s2⟩
    go_simp; with_reducible rfl
  rotate_left; · simp only [Act.put, pA, pB, pC, pD, pE]; rfl
  refine pure_ (i := 15) (N := some 3) (v := ?_) (a' := ?_) (bA 17 65535) rfl rfl (any_of HT_.out (by kernel_rfl)) (fun _ _ _ h => h) (Or.inl ⟨by rfl, ?_⟩) ?_ ?_
  rotate_left; · intro w'; go_simp; with_reducible rfl
  rotate_left; · simp only [Act.put, pA, pB, pC, pD, pE]; rfl
  refine pure_ (i := 16) (N := some 4) (v := ?_) (a' := ?_) (bA 17 131071) rfl rfl (any_of HT_.out (by kernel_rfl)) (fun _ _ _ h => h) (Or.inl ⟨by rfl, ?_⟩) ?_ ?_
  rotate_left; · intro w'; go_simp; with_reducible rfl
  rotate_left; · simp only [Act.put, pA, pB, pC, pD, pE]; rfl
  refine done_ (done_of HT_.out (by kernel_rfl)) ?_
  clear hHeld HT_ HW_
  go_wp2
  go_ret3
  exact ⟨rfl, rfl⟩

theorem swap_last {its : List Itm} {m : Nat} {a : Itm} (hn : its.length = m + 1) (ha : its[0]? = some a) : swapL its 0 m = takeS its ++ [a] := by
  have hl := swapL_length its 0 m
  have h1 : (swapL its 0 m)[m]? = some a := by rw [swapL_get its (by omega) (by omega), if_pos rfl, ha]
  have h2 : takeS its = (swapL its 0 m).take m := by rw [takeS, hn, Nat.add_sub_cancel]
  rw [h2]
  apply List.ext_getElem?
  intro j
  by_cases hj : j < m
  · rw [List.getElem?_append_left (by simp; omega), List.getElem?_take, if_pos hj]
  · by_cases hjm : j = m
    · rw [hjm, h1, List.getElem?_append_right (by simp; omega)]
      simp [hl, hn]
    · rw [List.getElem?_eq_none (by omega), List.getElem?_eq_none (by simp; omega)]
theorem takeS_length {its : List Itm} {m : Nat} (hn : its.length = m + 1) : (takeS its).length = m := by
  rw [takeS, List.length_take, swapL_length, hn]; omega

def DropPost (w : World) (base hb mb : Nat) (iv : Value) (R : List Itm) (came : Int) (w' : World) : Prop :=
  ∃ iv', Hp w' base hb mb iv' R came ∧ HK hb mb iv w w' ∧ iv'.ownBlock = iv.ownBlock

set_option maxHeartbeats 4000000 in
set_option maxRecDepth 100000 in
theorem drop_calls (w : World) (base hb mb k : Nat) (iv : Value) (its R : List Itm) (came : Int) (a : Itm) (h : Hp w base hb mb iv its came) (ha : its[0]? = some a) (hl : its.length < 1000000) (hR : dropS k its = some R) :
    Calls Try.prog 77 #[.pointer (some ⟨hb, 0, none⟩), .int .i64 a.1] w fun e w' => e = .returned (.bool true) ∧ DropPost w base hb mb iv R came w' := by
  have hi : 0 < its.length := (List.getElem?_eq_some_iff.1 ha).1
  obtain ⟨A, cp, rfl⟩ := own_slice h.own
  obtain ⟨g, cap, he, hbg, hglt⟩ := h.own.form hi
  cases he
  obtain ⟨m, hm⟩ : ∃ m, its.length = m + 1 := ⟨its.length - 1, by omega⟩
  obtain ⟨b, hb'⟩ : ∃ b, its[m]? = some b := ⟨_, List.getElem?_eq_getElem (by omega)⟩
  obtain ⟨f, hmp, hfit⟩ := h.mp
  have hf0 : f a.1 = some 0 := (hfit a.1 0).2 ⟨0, rfl, a, ha, rfl⟩
  have hLK := hmp.lookup_ok (P := Try.prog) (T := 134) Try.underlying134 Try.underlying3 zero_int a.1
  rw [hf0] at hLK
  simp only [Option.getD_some, Option.isSome_some] at hLK
  have hcap : m + 1 ≤ cp := by
    rcases h.own.2 with ⟨h1, _⟩ | ⟨_, _, _, h1, _, _, h2, _⟩
    · cases h1
    · cases h1; omega
  rw [hm] at h ⊢
  have d1 := h.hat.cell 1 rfl
  have d2 := h.hat.cell 2 rfl
  have e1 : wrap64 (m : Int) = (m : Int) := by unfold wrap64; omega
  have HH := Lib.hid h
  have HA := Lib.hid (And.intro ha hb')
  have HM := Lib.hid (And.intro hm hl)
  have HR := Lib.hid hR
  have HC := Lib.hid hcap
  clear h hmp hfit hf0 hi hbg hglt ha hb' hm hl hR hcap
  go_enter Try.func77, Try.ntmps77
  go_wp2_with fail
  refine (swap_calls _ base hb mb 0 m (.slice (some ⟨g, 0, none⟩) (m + 1) cp) its came a b HH.out HA.out.1 HA.out.2 (by have := HM.out.2; omega)).mono ?_
  rintro e w1 ⟨rfl, hp1, hk1⟩
  rw [swap_last HM.out.1 HA.out.1] at hp1
  obtain ⟨f, hmp, hfit⟩ := hp1.mp
  have hat := hp1.hat
  have hown := hp1.own
  have hlt1 := takeS_length HM.out.1
  have hln : (takeS its ++ [a]).length = m + 1 := by rw [List.length_append, hlt1]; rfl
  rw [hln] at hown
  obtain ⟨ob, hdel, hmp1⟩ := MP.delete (P := Try.prog) (T := 134) hmp Try.underlying134 Try.underlying3 a.1 0 3
  have hbm : hb ≠ mb := hmp.ne hat
  have hown1 := own_putObj (o := ob) hown hp1.lm
  have hat1 := hat.putObj (o := ob) hbm
  have hclr : ∀ c, (Builtin.clear_ #[135] 0 #[.slice (some ⟨g, m * 3, none⟩) 1 c]).run Try.prog (putObj w1 mb ob) = _ := fun c => run_clear3 (putObj w1 mb ob) g (m * 3) c 0 (own_there hown1 (show m < m + 1 by omega))
  have hown2 := own_put (x := (0, 0, 0)) hown1 m
  have d1 := hat.cell 1 rfl
  have d2 := hat.cell 2 rfl
  have d1' := hat1.cell 1 rfl
  have hbg : base ≤ g := (hown.lt g rfl).1
  have hlow := And.intro hp1.lb hp1.lm
  have hat2 := hat1.grown hown2.2 (by have := hlow.1; simp; omega)
  have d1'' := hat2.cell 1 rfl
  have f1'' := hat2.free 1
  have hmp2 := (hmp1.grown hown2.2 (by have := hlow.2; simp; omega)).off (i := 1) (u := .slice (some ⟨g, 0, none⟩) m cp) hbm
  have hk2 := ((hk1.put ob).grown hown2.2 rfl).set 1 (.slice (some ⟨g, 0, none⟩) m cp)
  have hset : (takeS its ++ [a]).set m (0, 0, 0) = takeS its ++ [(0, 0, 0)] := by
    rw [List.set_append_right _ _ (by omega), hlt1, Nat.sub_self]
    rfl
  have hown3 := hown2.1
  rw [hset, enc_append] at hown3
  have hown4 := (ownsRow_pop (by rw [enc_length, hlt1]) hown3).setB (i := 1) (u := .slice (some ⟨g, 0, none⟩) m cp) hlow.1
  have hfit2 : Fits (upd f a.1 none) (takeS its) := hfit.pop
  have hp2 : Hp (((putObj w1 mb ob).setCells g (m * 3) [.int .i64 0, .int .i64 0, .int .i64 0]).setCell ⟨hb, 1, none⟩ (.slice (some ⟨g, 0, none⟩) m cp)) base hb mb (.slice (some ⟨g, 0, none⟩) m cp) (takeS its) came := by
    refine ⟨?_, ?_, ⟨_, hmp2, hfit2⟩, hlow.1, hlow.2⟩
    · exact hat2.put rfl
    · rw [hlt1]; exact hown4
  have HP2 := Lib.hid hp2
  have HK2 := Lib.hid hk2
  have HLT := Lib.hid hlt1
  have m0 : (0 : Int) ≤ (m : Int) := by omega
  have m4 : m ≤ cp := by have := HC.out; omega
  have m5 : (m : Int) ≤ (cp : Int) := by omega
  have m6 : ¬ (cp = m) := by have := HC.out; omega
  clear hp1 hk1 hat hown hlt1 hln hmp hfit hmp1 hbm hown1 hat1 hown2 hbg hlow hat2 hmp2 hk2 hset hown3 hown4 hfit2 hp2
  by_cases h0 : 0 < m
  · have hR := HR.out
    rw [dropS, if_pos (by have := HM.out.1; omega)] at hR
    have HR2 := Lib.hid hR
    clear hR
    go_wp2_with fail
    refine (up_calls _ base hb mb 0 1 _ (takeS its) (takeS its) _ HP2.out (by have := HLT.out; have := HM.out; omega) (by have := HLT.out; rw [upS, if_pos (by omega)]; rfl)).mono ?_
    rintro e w3 ⟨rfl, hp3, hk3⟩
    have HP3 := Lib.hid hp3
    have HK3 := Lib.hid hk3
    clear hp3 hk3 hclr hdel
    go_wp2_with fail
    refine (down_calls _ base hb mb 0 k _ (takeS its) R _ HP3.out HR2.out).mono ?_
    rintro e w4 ⟨rfl, hp4, hk4⟩
    have HP4 := Lib.hid hp4
    have HK4 := Lib.hid hk4
    clear hp4 hk4
    go_wp2_with fail
    go_ret
    exact ⟨rfl, _, HP4.out, (HK2.out.trans' HK3.out (Or.inl rfl)).trans' HK4.out (Or.inl rfl), rfl⟩
  · have hR := HR.out
    rw [dropS, if_neg (by have := HM.out.1; omega)] at hR
    obtain rfl := Option.some.inj hR
    clear hR
    go_wp2_with fail
    go_ret
    exact ⟨rfl, _, HP2.out, HK2.out, rfl⟩

set_option maxHeartbeats 4000000 in
set_option maxRecDepth 100000 in
theorem pop_none (w : World) (base hb mb : Nat) (iv : Value) (came : Int) (h : Hp w base hb mb iv [] came) :
    Calls Try.prog 63 #[.pointer (some ⟨hb, 0, none⟩)] w fun e w' => e = .returned (.tuple #[.int .i64 0, .int .i64 0, .bool false]) ∧ w' = w := by
  have HH := Lib.hid h
  clear h
  go_enter Try.func63, Try.ntmps63
  go_wp2_with fail
  refine (peek_none _ base hb mb iv came HH.out).mono ?_
  rintro e w1 ⟨rfl, rfl⟩
  go_wp2_with fail
  go_ret3
  exact ⟨rfl, rfl⟩

set_option maxHeartbeats 4000000 in
set_option maxRecDepth 100000 in
theorem pop_some (w : World) (base hb mb k : Nat) (iv : Value) (its R : List Itm) (came : Int) (a : Itm) (h : Hp w base hb mb iv its came) (ha : its[0]? = some a) (hl : its.length < 1000000) (hR : dropS k its = some R) :
    Calls Try.prog 63 #[.pointer (some ⟨hb, 0, none⟩)] w fun e w' => e = .returned (.tuple #[.int .i64 a.1, .int .i64 a.2.1, .bool true]) ∧ DropPost w base hb mb iv R came w' := by
  have HH := Lib.hid (And.intro h (And.intro ha (And.intro hl hR)))
  clear h ha hl hR
  go_enter Try.func63, Try.ntmps63
  go_wp2_with fail
  refine (peek_some _ base hb mb iv its came a HH.out.1 HH.out.2.1 (by have := HH.out.2.2.1; omega)).mono ?_
  rintro e w1 ⟨rfl, rfl⟩
  go_wp2_with fail
  refine (drop_calls _ base hb mb k iv its R came a HH.out.1.drew HH.out.2.1 HH.out.2.2.1 HH.out.2.2.2).mono ?_
  rintro e w2 ⟨rfl, hp⟩
  have HP := Lib.hid hp
  clear hp
  go_wp2_with fail
  go_ret3
  obtain ⟨iv', h1, h2, h3⟩ := HP.out
  exact ⟨rfl, iv', h1, ((HK.refl hb mb iv w).drew).trans h2, h3⟩

end Go.Proofs.Ytdohfjidnbhfnaa.Hp

/- heap.Heap[int, int] as a set of numbers, each of its own rank: Push, Pop. -/
namespace Go.Proofs.Ytdohfjidnbhfnaa.Hp
set_option linter.unusedSimpArgs false
set_option linter.unusedVariables false
open Go Go.RowKit Go.Proofs.Ytdohfjidnbhfnaa.Mem Go.Proofs.Ytdohfjidnbhfnaa.Hq Go.Proofs.Ytdohfjidnbhfnaa.Tj Go.Proofs.YtdohfjidnbhfnaaW.PrintWords Go.Proofs.YtdohfjidnbhfnaaW.PrintLast

theorem fits_uniq {f : Int → Option Int} {its : List Itm} (h : Fits f its) {n m : Nat} {x y : Itm} (h1 : its[n]? = some x) (h2 : its[m]? = some y) (h3 : x.1 = y.1) : n = m := by
  have e1 := (h x.1 n).2 ⟨n, rfl, x, h1, rfl⟩
  have e2 := (h x.1 m).2 ⟨m, rfl, y, h2, h3.symm⟩
  rw [e1] at e2
  have := Option.some.inj e2
  omega

theorem pop_ok {f : Int → Option Int} {its : List Itm} {a : Itm} (h : IsHeap its) (hf : Fits f its) (ha : its[0]? = some a) (hl : its.length < 1000000) :
    ∃ R, dropS (its.length + 1) its = some R ∧ IsHeap R ∧ R.length + 1 = its.length ∧ ∀ x, x ∈ R ↔ (x ∈ its ∧ x.1 ≠ a.1) := by
  have hi : 0 < its.length := (List.getElem?_eq_some_iff.1 ha).1
  obtain ⟨m, hm⟩ : ∃ m, its.length = m + 1 := ⟨its.length - 1, by omega⟩
  obtain ⟨b, hb⟩ : ∃ b, its[m]? = some b := ⟨_, List.getElem?_eq_getElem (by omega)⟩
  have hsw := swap_last hm ha
  have htl := takeS_length hm
  have hfs := hf.swap ha hb
  rw [hsw] at hfs
  have hmem : ∀ x, x ∈ takeS its ↔ (x ∈ its ∧ x.1 ≠ a.1) := by
    intro x
    rw [← mem_swapL its hi (show m < its.length by omega), hsw, List.mem_append, List.mem_singleton]
    constructor
    · intro hx
      refine ⟨Or.inl hx, fun he => ?_⟩
      obtain ⟨n, hn⟩ := List.mem_iff_getElem?.1 hx
      have hnl := (List.getElem?_eq_some_iff.1 hn).1
      have := fits_uniq hfs (n := n) (m := m) (x := x) (y := a) (by rw [List.getElem?_append_left hnl]; exact hn) (by rw [List.getElem?_append_right (by omega), htl, Nat.sub_self]; rfl) he
      omega
    · rintro ⟨hx | rfl, hne⟩
      · exact hx
      · exact absurd rfl hne
  unfold dropS
  by_cases h1 : 1 < its.length
  · rw [if_pos h1]
    have hg : ∀ j, j < m → (takeS its).getD j z = if j = 0 then its.getD m z else its.getD j z := fun j hj => by
      have e := swapL_getD its hi (show m < its.length by omega) j
      rw [hsw, List.getD_eq_getElem?_getD, List.getElem?_append_left (by omega), ← List.getD_eq_getElem?_getD, if_neg (show ¬ j = m by omega)] at e
      exact e
    obtain ⟨R, r1, r2, r3, r4⟩ := down_ok (its.length + 1) (takeS its) 0 (by omega) (by omega) (by omega) (by
      intro j hj hjl hne
      rw [hg _ (by omega), hg _ (by omega), if_neg hne, if_neg (by omega)]
      exact h j hj (by omega)) (by
      intro j hj hjl he h0
      omega)
    exact ⟨R, r1, r2, by omega, fun x => (r4 x).trans (hmem x)⟩
  · rw [if_neg h1]
    refine ⟨takeS its, rfl, ?_, by omega, hmem⟩
    intro j hj hjl
    omega

def HQ (w : World) (base hb mb : Nat) (rs : List Nat) (came : Nat) : Prop :=
  ∃ iv its, Hp w base hb mb iv its (came : Int) ∧ IsHeap its ∧ its.length ≤ came ∧ (∀ x ∈ its, x.2.1 = x.1) ∧ ∀ k : Int, (∃ x ∈ its, x.1 = k) ↔ ∃ c ∈ rs, k = ((c : Nat) : Int)

def KeepQ (B : Nat) (w w' : World) : Prop :=
  Below B w w' ∧ ∀ (base : Nat) (v : Value) (n : Nat) (xs : List Value), w.ownsRow base 3 1 v n xs → w'.ownsRow base 3 1 v n xs
theorem KeepQ.refl (B : Nat) (w : World) : KeepQ B w w := ⟨Below.refl _ _, fun _ _ _ _ h => h⟩
theorem KeepQ.trans {B : Nat} {a b c : World} (h : KeepQ B a b) (h' : KeepQ B b c) : KeepQ B a c := ⟨h.1.trans h'.1, fun b v n xs ho => h'.2 b v n xs (h.2 b v n xs ho)⟩

theorem keepQ_of {B base hb mb : Nat} {iv : Value} {its : List Itm} {came : Int} {w w' : World} (h : Hp w base hb mb iv its came) (hk : HK hb mb iv w w') (h1 : B ≤ hb) (h2 : B ≤ mb) : KeepQ B w w' := by
  have h3 := h.lb
  refine ⟨⟨hk.os, hk.tape, hk.output, hk.size, fun k hkk => hk.block k (by have := h.hat.lt; omega) (by omega) (by omega) (fun he => by have := (h.own.lt k he.symm).1; omega)⟩, ?_⟩
  intro b v n xs ho
  obtain ⟨f, hmp, _⟩ := h.mp
  refine own_move ho (fun k hkk => ?_)
  refine hk.block k (ho.lt k hkk).2 ?_ ?_ ?_
  · rintro rfl
    exact own_off ho h.hat (by decide) hkk.symm
  · rintro rfl
    exact hmp.own ho hkk.symm
  · intro he
    rcases own_apart ho h.own (by decide) with e | e
    · rw [hkk] at e; cases e
    · exact e (hkk.trans he)

theorem HQ.low {w : World} {base hb mb came : Nat} {rs : List Nat} (h : HQ w base hb mb rs came) : hb < base ∧ mb < base := by
  obtain ⟨iv, its, hp, _⟩ := h
  exact ⟨hp.lb, hp.lm⟩
theorem HQ.drewN {w : World} {base hb mb came : Nat} {rs : List Nat} (h : HQ w base hb mb rs came) (n : Nat) : HQ (w.drewN n) base hb mb rs came := by
  obtain ⟨iv, its, hp, r⟩ := h
  exact ⟨iv, its, hp.drewN n, r⟩
theorem HQ.move {w w' : World} {base hb mb came : Nat} {rs : List Nat} (h : HQ w base hb mb rs came) (hh : w'.heap[hb]? = w.heap[hb]?) (hm : w'.heap[mb]? = w.heap[mb]?) (ho : ∀ v n xs, w.ownsRow base 139 3 v n xs → w'.ownsRow base 139 3 v n xs) : HQ w' base hb mb rs came := by
  obtain ⟨iv, its, hp, r⟩ := h
  obtain ⟨f, h1, h2⟩ := hp.mp
  exact ⟨iv, its, ⟨hh.trans hp.hat, ho _ _ _ hp.own, ⟨f, h1.move hm, h2⟩, hp.lb, hp.lm⟩, r⟩
theorem HQ.setB {w : World} {base hb mb came B : Nat} {rs : List Nat} (h : HQ w base hb mb rs came) (h1 : B ≤ hb) (h2 : B ≤ mb) {g i : Nat} (hg : g < B) (u : Value) : HQ (w.setCell ⟨g, i, none⟩ u) base hb mb rs came :=
  h.move (heap_setCell_other w ⟨g, i, none⟩ hb u (by show hb ≠ g; omega)) (heap_setCell_other w ⟨g, i, none⟩ mb u (by show mb ≠ g; omega)) (fun v n xs ho => ho.setB (by have := h.low; omega))
theorem HQ.al {w : World} {base hb mb came : Nat} {rs : List Nat} (h : HQ w base hb mb rs came) (o : Obj) : HQ (w.alloc o) base hb mb rs came := by
  have hh := h
  obtain ⟨iv, its, hp, _⟩ := hh
  obtain ⟨f, h1, _⟩ := hp.mp
  exact h.move (Below.heap_alloc w o hb hp.hat.lt) (Below.heap_alloc w o mb h1.lt) (fun v n xs ho => ho.alloc o)
theorem HQ.grown {w w' : World} {base hb mb came b n : Nat} {rs : List Nat} {v : Value} {xs : List Value} (h : HQ w base hb mb rs came) (ho : w.ownsRow b 3 1 v n xs) (hg : w.grownBy w' v.ownBlock) : HQ w' base hb mb rs came := by
  have hh := h
  obtain ⟨iv, its, hp, _⟩ := hh
  obtain ⟨f, h1, _⟩ := hp.mp
  refine h.move (hg.block hb hp.hat.lt (own_off ho hp.hat (by decide))) (hg.block mb h1.lt (h1.own ho)) (fun v' n' xs' ho' => ho'.kept hg (own_apart ho' ho (by decide)))

theorem newQ_calls (w : World) : Calls Try.prog 60 #[.func (.func 61) #[] #[]] w fun e w' =>
    ∃ hb mb, e = .returned (.pointer (some ⟨hb, 0, none⟩)) ∧ HQ w' w'.heap.size hb mb [] 0 ∧ Below w.heap.size w w' ∧ w.heap.size ≤ hb ∧ w.heap.size ≤ mb := by
  refine (new_calls w).mono ?_
  rintro e w' ⟨hb, mb, rfl, h1, h2, h3, h4⟩
  exact ⟨hb, mb, rfl, ⟨_, [], h1, fun j _ hj => by simp at hj, by simp, by simp, by simp⟩, h2, h3, h4⟩

theorem pushQ_calls (w : World) (base hb mb B c came : Nat) (rs : List Nat) (h : HQ w base hb mb rs came) (hB : B ≤ hb ∧ B ≤ mb) (hc : c ∉ rs) (hcm : came < 1000000) (hbw : base ≤ w.heap.size) :
    Calls Try.prog 62 #[.pointer (some ⟨hb, 0, none⟩), .int .i64 (c : Int), .int .i64 (c : Int)] w fun e w' => e = .returned (.bool true) ∧ HQ w' base hb mb (insS c rs) (came + 1) ∧ KeepQ B w w' := by
  obtain ⟨iv, its, hp, hh, hl, hr, hm⟩ := h
  obtain ⟨R, r1, r2, r3, r4⟩ := push_ok hh ((c : Int), (c : Int), (came : Int) + 1)
  refine (push_calls w base hb mb (its.length + 1) iv its R came c c hp (by omega) (by omega) (by omega) ?_ hbw r1).mono ?_
  · intro x hx he
    obtain ⟨c', hc', he'⟩ := (hm c).1 ⟨x, hx, he⟩
    have : c = c' := by omega
    exact hc (this ▸ hc')
  · rintro e w' ⟨rfl, iv', h1, h2, _⟩
    refine ⟨rfl, ⟨iv', R, h1, r2, by omega, ?_, ?_⟩, keepQ_of hp h2 hB.1 hB.2⟩
    · intro x hx
      rcases (r4 x).1 hx with h | rfl
      · exact hr x h
      · rfl
    · intro k
      constructor
      · rintro ⟨x, hx, rfl⟩
        rcases (r4 x).1 hx with h | rfl
        · obtain ⟨c', h3, h4⟩ := (hm x.1).1 ⟨x, h, rfl⟩
          exact ⟨c', (mem_insS c rs c').2 (.inr h3), h4⟩
        · exact ⟨c, (mem_insS c rs c).2 (.inl rfl), rfl⟩
      · rintro ⟨c', h3, rfl⟩
        rcases (mem_insS c rs c').1 h3 with rfl | h3
        · exact ⟨_, (r4 _).2 (.inr rfl), rfl⟩
        · obtain ⟨x, hx, he⟩ := (hm c').2 ⟨c', h3, rfl⟩
          exact ⟨x, (r4 x).2 (.inl hx), he⟩

theorem popQ_none (w : World) (base hb mb came : Nat) (h : HQ w base hb mb [] came) :
    Calls Try.prog 63 #[.pointer (some ⟨hb, 0, none⟩)] w fun e w' => e = .returned (.tuple #[.int .i64 0, .int .i64 0, .bool false]) ∧ w' = w := by
  obtain ⟨iv, its, hp, hh, hl, hr, hm⟩ := h
  cases its with
  | nil => exact pop_none w base hb mb iv came hp
  | cons x r =>
    obtain ⟨c, hc, _⟩ := (hm x.1).1 ⟨x, by simp, rfl⟩
    simp at hc

theorem popQ_some (w : World) (base hb mb B c came : Nat) (rs : List Nat) (h : HQ w base hb mb (c :: rs) came) (hB : B ≤ hb ∧ B ≤ mb) (hs : (c :: rs).Pairwise (· < ·)) (hcm : came < 1000000) :
    Calls Try.prog 63 #[.pointer (some ⟨hb, 0, none⟩)] w fun e w' => e = .returned (.tuple #[.int .i64 (c : Int), .int .i64 (c : Int), .bool true]) ∧ HQ w' base hb mb rs came ∧ KeepQ B w w' := by
  obtain ⟨iv, its, hp, hh, hl, hr, hm⟩ := h
  obtain ⟨y, hy, hyc⟩ := (hm c).2 ⟨c, by simp, rfl⟩
  obtain ⟨a, ha⟩ : ∃ a, its[0]? = some a := by
    cases its with
    | nil => simp at hy
    | cons x r => exact ⟨x, rfl⟩
  have ham : a ∈ its := List.mem_of_getElem? ha
  have hac : a.1 = (c : Int) := by
    obtain ⟨c', hc', he'⟩ := (hm a.1).1 ⟨a, ham, rfl⟩
    obtain ⟨n, hn⟩ := List.mem_iff_getElem?.1 hy
    have hle := head_least hh n (List.getElem?_eq_some_iff.1 hn).1
    rw [getD_of ha, getD_of hn, leI_iff, hr a ham, hr y hy, hyc, he'] at hle
    rcases List.mem_cons.1 hc' with rfl | hc'
    · exact he'
    · have := (List.pairwise_cons.1 hs).1 c' hc'
      omega
  obtain ⟨f, hmp, hfit⟩ := hp.mp
  obtain ⟨R, r1, r2, r3, r4⟩ := pop_ok hh hfit ha (by omega)
  refine (pop_some w base hb mb (its.length + 1) iv its R came a hp ha (by omega) r1).mono ?_
  rintro e w' ⟨rfl, iv', h1, h2, _⟩
  rw [hr a ham, hac]
  refine ⟨rfl, ⟨iv', R, h1, r2, by omega, fun x hx => hr x ((r4 x).1 hx).1, ?_⟩, keepQ_of hp h2 hB.1 hB.2⟩
  intro k
  constructor
  · rintro ⟨x, hx, rfl⟩
    obtain ⟨hx1, hx2⟩ := (r4 x).1 hx
    obtain ⟨c', h3, h4⟩ := (hm x.1).1 ⟨x, hx1, rfl⟩
    rcases List.mem_cons.1 h3 with rfl | h3
    · rw [hac] at hx2; exact absurd h4 hx2
    · exact ⟨c', h3, h4⟩
  · rintro ⟨c', h3, rfl⟩
    obtain ⟨x, hx, he⟩ := (hm c').2 ⟨c', List.mem_cons.2 (.inr h3), rfl⟩
    refine ⟨x, (r4 x).2 ⟨hx, ?_⟩, he⟩
    rw [he, hac]
    have := (List.pairwise_cons.1 hs).1 c' h3
    omega

end Go.Proofs.Ytdohfjidnbhfnaa.Hp

/- scc.Order: what lies in memory while it runs. -/
namespace Go.Proofs.Ytdohfjidnbhfnaa.Scc
open Go Go.RowKit Go.Proofs.Ytdohfjidnbhfnaa.Mem Go.Proofs.Ytdohfjidnbhfnaa.Tj Go.Proofs.Ytdohfjidnbhfnaa.Sl Go.Proofs.YtdohfjidnbhfnaaW.PrintWords Go.Proofs.YtdohfjidnbhfnaaW.PrintLast
attribute [local go_sem ↓] Go.wp_at_zero Go.wp_at_succ
set_option linter.unusedSimpArgs false
set_option linter.unusedVariables false

structure OL (a bh bi bo : Nat) : Prop where
  h0 : a ≤ bh
  h1 : bh < a + 3
  i0 : a ≤ bi
  i1 : bi < a + 3
  o0 : a ≤ bo
  o1 : bo < a + 3
  n1 : bh ≠ bi
  n2 : bh ≠ bo
  n3 : bi ≠ bo

structure OA (w2 : World) (a bh bi bo m : Nat) (vals : List Value) (head : List Int) (into : List Nat) (outs : List (List Nat)) (W : World) : Prop where
  hh : At W bh (ints head) 3
  hi : At W bi (nats into) 3
  ho : Rws W (a + 3) bo m vals outs
  hb : Below a w2 W
  lh : head.length = m
  li : into.length = m
  hs : a + 3 ≤ W.heap.size

theorem own_max {w : World} {base : Nat} {e : TypeId} {size n : Nat} {v : Value} {xs : List Value} (h : w.ownsRow base e size v n xs) : n ≤ 9223372036854775807 := by
  rcases h.2 with ⟨_, h0⟩ | ⟨_, cap, _, _, _, _, h1, h2, _⟩
  · omega
  · simp [maxLen] at h2; omega

def OStart (w2 : World) (a m : Nat) (v10 v11 v12 : Value) (W : World) : Prop :=
  ∃ bh bi bo, v10 = .slice (some ⟨bh, 0, none⟩) m m ∧ v11 = .slice (some ⟨bi, 0, none⟩) m m ∧ v12 = .slice (some ⟨bo, 0, none⟩) m m ∧ OL a bh bi bo ∧
    OA w2 a bh bi bo m (List.replicate m (.slice none 0 0)) (List.replicate m 0) (List.replicate m 0) (List.replicate m []) W

theorem made_ints (n : Nat) : (madeCells #[.int .i64 0] n).toList = ints (List.replicate n 0) := by rw [toList_madeCells_one]; simp [ints]

theorem Rws.start {w : World} {base bo n : Nat} (h : At w bo (List.replicate n (.slice none 0 0)) 24) : Rws w base bo n (List.replicate n (.slice none 0 0)) (List.replicate n []) := by
  refine ⟨h, by simp, by simp, ?_, ?_⟩
  · intro u v r e1 e2
    rw [List.getElem?_replicate] at e1 e2
    split at e1
    · cases e1
      rw [if_pos (by assumption)] at e2
      cases e2
      exact World.ownsRow_nil _ _ _ _
    · cases e1
  · intro u u' v v' _ e1 _
    rw [List.getElem?_replicate] at e1
    split at e1
    · cases e1; left; rfl
    · cases e1

theorem mk_ostart {w2 W : World} {m bh bi bo : Nat} (h1 : At W bh (ints (List.replicate m 0)) 3) (h2 : At W bi (nats (List.replicate m 0)) 3) (h3 : At W bo (List.replicate m (.slice none 0 0)) 24)
    (hl : w2.heap.size ≤ bh ∧ bh < w2.heap.size + 3 ∧ w2.heap.size ≤ bi ∧ bi < w2.heap.size + 3 ∧ w2.heap.size ≤ bo ∧ bo < w2.heap.size + 3) (hd : bh ≠ bi ∧ bh ≠ bo ∧ bi ≠ bo)
    (hb : Below w2.heap.size w2 W) (hs : w2.heap.size + 3 ≤ W.heap.size) : OStart w2 w2.heap.size m (.slice (some ⟨bh, 0, none⟩) m m) (.slice (some ⟨bi, 0, none⟩) m m) (.slice (some ⟨bo, 0, none⟩) m m) W :=
  ⟨bh, bi, bo, rfl, rfl, rfl, ⟨hl.1, hl.2.1, hl.2.2.1, hl.2.2.2.1, hl.2.2.2.2.1, hl.2.2.2.2.2, hd.1, hd.2.1, hd.2.2⟩, h1, h2, Rws.start h3, hb, by simp, by simp, hs⟩

theorem Rws.setB {w : World} {base bo n : Nat} {vals : List Value} {out : List (List Nat)} (h : Rws w base bo n vals out) {g i : Nat} (hg : g < base) (hne : bo ≠ g) (u : Value) : Rws (w.setCell ⟨g, i, none⟩ u) base bo n vals out :=
  ⟨h.hat.off hne, h.lv, h.lo, fun k v r h1 h2 => (h.own k v r h1 h2).setB hg, h.apart⟩

section
variable {w2 W : World} {a bh bi bo m : Nat} {vals : List Value} {head : List Int} {into : List Nat} {outs : List (List Nat)}
theorem OA.drewN (h : OA w2 a bh bi bo m vals head into outs W) (k : Nat) : OA w2 a bh bi bo m vals head into outs (W.drewN k) :=
  ⟨h.hh, h.hi, ⟨h.ho.hat, h.ho.lv, h.ho.lo, h.ho.own, h.ho.apart⟩, ⟨h.hb.os, h.hb.tape, h.hb.output, h.hb.size, h.hb.block⟩, h.lh, h.li, h.hs⟩
theorem OA.drew (h : OA w2 a bh bi bo m vals head into outs W) : OA w2 a bh bi bo m vals head into outs W.drew := h.drewN 1
theorem OA.below (h : OA w2 a bh bi bo m vals head into outs W) (L : OL a bh bi bo) {W' : World} (hb : Below W.heap.size W W') : OA w2 a bh bi bo m vals head into outs W' :=
  ⟨h.hh.below hb h.hh.lt, h.hi.below hb h.hi.lt, h.ho.below hb, h.hb.trans (hb.mono (by have := h.hs; omega)), h.lh, h.li, Nat.le_trans h.hs hb.size⟩
theorem OA.setHead (h : OA w2 a bh bi bo m vals head into outs W) (L : OL a bh bi bo) (c : Nat) (x : Int) : OA w2 a bh bi bo m vals (head.set c x) into outs (W.setCell ⟨bh, c, none⟩ (.int .i64 x)) :=
  ⟨h.hh.put (ints_set _ _ _).symm, h.hi.off L.n1.symm, h.ho.setB L.h1 L.n2.symm _, h.hb.setCell L.h0 _, by simpa using h.lh, h.li, by have := h.hs; simpa using this⟩
theorem OA.setInto (h : OA w2 a bh bi bo m vals head into outs W) (L : OL a bh bi bo) (c x : Nat) : OA w2 a bh bi bo m vals head (into.set c x) outs (W.setCell ⟨bi, c, none⟩ (.int .i64 (x : Int))) :=
  ⟨h.hh.off L.n1, h.hi.put (nats_set _ _ _).symm, h.ho.setB L.i1 L.n3.symm _, h.hb.setCell L.i0 _, h.lh, by simpa using h.li, by have := h.hs; simpa using this⟩
end

def VRel (w2 : World) (a bh bi bo m : Nat) (comp : List Nat) (sl : List Int) (out : List (List Nat)) (R : List Int × List Nat × List (List Nat)) (k : Nat) (W : World) : Prop :=
  ∃ vals head into outs, vertsO comp sl out k head into outs = some R ∧ OA w2 a bh bi bo m vals head into outs W
def RRel (w2 : World) (a bh bi bo m c : Nat) (comp row : List Nat) (head : List Int) (R : List Nat × List (List Nat)) (j : Nat) (W : World) : Prop :=
  ∃ vals into outs, rowO comp c (row.drop j) into outs = some R ∧ OA w2 a bh bi bo m vals head into outs W

structure OK (a b base hb mb : Nat) (vals : List Value) : Prop where
  ab : a + 3 ≤ b
  bh : b ≤ hb
  bm : b ≤ mb
  bb : b ≤ base
  low : ∀ (u : Nat) (v : Value) (k : Nat), vals[u]? = some v → v.ownBlock = some k → k < b

structure OC (w2 : World) (a bh bi bo m base hb mb : Nat) (vals : List Value) (head : List Int) (into : List Nat) (outs : List (List Nat)) (rs : List Nat) (came : Nat) (W : World) : Prop where
  oa : OA w2 a bh bi bo m vals head into outs W
  q : Hp.HQ W base hb mb rs came
  hs : base ≤ W.heap.size

section
variable {w2 W W' : World} {a b bh bi bo m base hb mb came came' : Nat} {vals : List Value} {head : List Int} {into rs rs' : List Nat} {outs : List (List Nat)}
theorem OC.drewN (h : OC w2 a bh bi bo m base hb mb vals head into outs rs came W) (k : Nat) : OC w2 a bh bi bo m base hb mb vals head into outs rs came (W.drewN k) := ⟨h.oa.drewN k, h.q.drewN k, h.hs⟩
theorem OC.keep (h : OC w2 a bh bi bo m base hb mb vals head into outs rs came W) (L : OL a bh bi bo) (K : OK a b base hb mb vals) (hk : Hp.KeepQ b W W') (hq : Hp.HQ W' base hb mb rs' came') : OC w2 a bh bi bo m base hb mb vals head into outs rs' came' W' := by
  have hab := K.ab
  refine ⟨⟨h.oa.hh.below hk.1 (by have := L.h1; omega), h.oa.hi.below hk.1 (by have := L.i1; omega), ⟨h.oa.ho.hat.below hk.1 (by have := L.o1; omega), h.oa.ho.lv, h.oa.ho.lo, fun u v r h1 h2 => hk.2 _ _ _ _ (h.oa.ho.own u v r h1 h2), h.oa.ho.apart⟩,
    h.oa.hb.trans (hk.1.mono (by omega)), h.oa.lh, h.oa.li, Nat.le_trans h.oa.hs hk.1.size⟩, hq, Nat.le_trans h.hs hk.1.size⟩
theorem OC.setInto (h : OC w2 a bh bi bo m base hb mb vals head into outs rs came W) (L : OL a bh bi bo) (K : OK a b base hb mb vals) (c x : Nat) : OC w2 a bh bi bo m base hb mb vals head (into.set c x) outs rs came (W.setCell ⟨bi, c, none⟩ (.int .i64 (x : Int))) :=
  ⟨h.oa.setInto L c x, h.q.setB K.bh K.bm (by have := L.i1; have := K.ab; omega) _, by have := h.hs; simpa using this⟩
theorem OC.al (h : OC w2 a bh bi bo m base hb mb vals head into outs rs came W) (L : OL a bh bi bo) (o : Obj) : OC w2 a bh bi bo m base hb mb vals head into outs rs came (W.alloc o) :=
  ⟨h.oa.below L ((Below.refl _ _).alloc (Nat.le_refl _) o), h.q.al o, by have := h.hs; simp; omega⟩
theorem OC.grown (h : OC w2 a bh bi bo m base hb mb vals head into outs rs came W) (L : OL a bh bi bo) (K : OK a b base hb mb vals) {n : Nat} {v : Value} {xs : List Value} (ho : W.ownsRow base 3 1 v n xs) (hg : W.grownBy W' v.ownBlock) : OC w2 a bh bi bo m base hb mb vals head into outs rs came W' := by
  have hab := K.ab
  have hbb := K.bb
  refine ⟨⟨h.oa.hh.grown hg (own_under ho (by have := L.h1; omega)), h.oa.hi.grown hg (own_under ho (by have := L.i1; omega)), ⟨h.oa.ho.hat.grown hg (own_under ho (by have := L.o1; omega)), h.oa.ho.lv, h.oa.ho.lo, fun u v' r h1 h2 => (h.oa.ho.own u v' r h1 h2).kept hg ?_, h.oa.ho.apart⟩,
    h.oa.hb.grown hg (by have := h.oa.hs; omega) (fun k hk => by have := (ho.lt k hk).1; omega), h.oa.lh, h.oa.li, Nat.le_trans h.oa.hs hg.size⟩, h.q.grown ho hg, Nat.le_trans h.hs hg.size⟩
  cases hv : v'.ownBlock with
  | none => exact Or.inl rfl
  | some k =>
    right
    intro he
    have h3 := K.low u v' k h1 hv
    have h4 := (ho.lt k he.symm).1
    omega
end

def SRel (w2 : World) (a bh bi bo m base hb mb : Nat) (vals : List Value) (head : List Int) (into : List Nat) (outs : List (List Nat)) (R : List Nat × Nat) (k c : Nat) (W : World) : Prop :=
  ∃ rs came, seedO into k c rs came = some R ∧ rs.Pairwise (· < ·) ∧ OC w2 a bh bi bo m base hb mb vals head into outs rs came W

def LRel (w2 : World) (a bh bi bo m base hb mb : Nat) (vals : List Value) (head : List Int) (outs : List (List Nat)) (T : List Int) (k : Nat) (v18 v19 v21 : Value) (W : World) : Prop :=
  ∃ into rs came told, loopO head outs k into rs came told = some T ∧ rs.Pairwise (· < ·) ∧ v21 = .bool (!rs.isEmpty) ∧ (∃ c : Nat, v19 = .int .i64 (c : Int) ∧ c = rs.headD 0) ∧
    OC w2 a bh bi bo m base hb mb vals head into outs rs.tail came W ∧ W.ownsRow base 3 1 v18 told.length (ints told)

def FRel (w2 : World) (a bh bi bo m base hb mb : Nat) (vals : List Value) (head : List Int) (outs : List (List Nat)) (row : List Nat) (told : List Int) (v18 : Value) (R : List Nat × List Nat × Nat) (j : Nat) (W : World) : Prop :=
  ∃ into rs came, freeO (row.drop j) into rs came = some R ∧ rs.Pairwise (· < ·) ∧ OC w2 a bh bi bo m base hb mb vals head into outs rs came W ∧ W.ownsRow base 3 1 v18 told.length (ints told)

end Go.Proofs.Ytdohfjidnbhfnaa.Scc
