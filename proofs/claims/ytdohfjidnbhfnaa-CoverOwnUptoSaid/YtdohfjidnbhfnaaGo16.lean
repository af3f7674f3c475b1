/- heap.Heap[int, int]: swap, and what a step of the heap keeps. -/
import Derived.Test.YtdohfjidnbhfnaaGo15
import Derived.Deep.MidRow
namespace Go.Proofs.Ytdohfjidnbhfnaa.Hp
open Go Go.RowKit Go.Proofs.Ytdohfjidnbhfnaa.Mem Go.Proofs.Ytdohfjidnbhfnaa.Hq Go.Proofs.YtdohfjidnbhfnaaW.PrintWords Go.Proofs.YtdohfjidnbhfnaaW.PrintLast
attribute [local go_sem ↓] Go.wp_at_zero Go.wp_at_succ
set_option linter.unusedSimpArgs false
set_option linter.unusedVariables false

structure HK (hb mb : Nat) (iv : Value) (w w' : World) : Prop where
  os : w'.os = w.os
  tape : w'.tape = w.tape
  output : w'.output = w.output
  size : w.heap.size ≤ w'.heap.size
  block : ∀ k, k < w.heap.size → k ≠ hb → k ≠ mb → some k ≠ iv.ownBlock → w'.heap[k]? = w.heap[k]?

section
variable {hb mb : Nat} {iv : Value} {w w1 w2 : World}
theorem HK.refl (hb mb : Nat) (iv : Value) (w : World) : HK hb mb iv w w := ⟨rfl, rfl, rfl, Nat.le_refl _, fun _ _ _ _ _ => rfl⟩
theorem HK.trans (h : HK hb mb iv w w1) (h' : HK hb mb iv w1 w2) : HK hb mb iv w w2 :=
  ⟨h'.os.trans h.os, h'.tape.trans h.tape, h'.output.trans h.output, Nat.le_trans h.size h'.size, fun k hk h1 h2 h3 => (h'.block k (Nat.lt_of_lt_of_le hk h.size) h1 h2 h3).trans (h.block k hk h1 h2 h3)⟩
theorem HK.drew (h : HK hb mb iv w w1) : HK hb mb iv w w1.drew := ⟨h.os, h.tape, h.output, h.size, h.block⟩
theorem HK.ofBelow (h : Below w.heap.size w w1) : HK hb mb iv w w1 := ⟨h.os, h.tape, h.output, h.size, fun k hk _ _ _ => h.block k hk⟩
theorem HK.ofGrown {row : Option Nat} (h : w.grownBy w1 row) (hr : row = iv.ownBlock) : HK hb mb iv w w1 := ⟨h.os, h.tape, h.output, h.size, fun k hk _ _ h3 => h.block k hk (by rw [hr]; exact h3)⟩
theorem HK.below (h : HK hb mb iv w w1) (h' : Below w1.heap.size w1 w2) : HK hb mb iv w w2 := h.trans (HK.ofBelow h')
theorem HK.grown {row : Option Nat} (h : HK hb mb iv w w1) (h' : w1.grownBy w2 row) (hr : row = iv.ownBlock) : HK hb mb iv w w2 := h.trans (HK.ofGrown h' hr)
theorem HK.put (h : HK hb mb iv w w1) (o : Obj) : HK hb mb iv w (putObj w1 mb o) :=
  h.trans ⟨rfl, rfl, rfl, by rw [putObj_size]; exact Nat.le_refl _, fun k _ _ h2 _ => putObj_far h2⟩
theorem HK.set (h : HK hb mb iv w w1) (i : Nat) (u : Value) : HK hb mb iv w (w1.setCell ⟨hb, i, none⟩ u) :=
  h.trans ⟨rfl, rfl, rfl, by simp [World.setCell], fun k _ h1 _ _ => heap_setCell_other w1 ⟨hb, i, none⟩ k u h1⟩
theorem HK.al (h : HK hb mb iv w w1) (o : Obj) : HK hb mb iv w (w1.alloc o) := h.below ((Below.refl _ _).alloc (Nat.le_refl _) o)
end

theorem store3_ {P : Program} {ops : Array Oper} {Q : Exit → Act → World → Prop} {oi : Oper} {a : Act} {w : World} {K : Act → World → Prop} (hw : Region.wanted oi (yielded ops a.tmps) = true) (hN : oi.dst = none) (ty : TypeId) (x y : Operand) (ho : oi.op = .store ty x y) (b o : Nat) (cells : Array Value)
    (hx : a.eval x = .pointer (some ⟨b, o, none⟩)) (hy : a.eval y = .agg cells) (ht : w.there b o cells.size) (hi : (P.info? ty).map (·.size) = some cells.size) (h1 : cells.all (·.oneCell') = true)
    (h : K a (w.setCells b o cells.toList)) : if Region.wanted oi (yielded ops a.tmps) = true then Oper.wp P oi a w K Q else K (a.put none undef) w := by
  rw [if_pos hw]
  refine wp_store_mid ty x y ho b o cells hx hy ht hi h1 ?_
  rw [hN]
  exact h

theorem own_there {w : World} {base g n cap j : Nat} {T : TypeId} {xs : List Value} (h : w.ownsRow base T 3 (.slice (some ⟨g, 0, none⟩) n cap) n xs) (hj : j < n) : w.there g (j * 3) 3 := fun k hk => by
  refine ⟨?_, h.frozenAt _⟩
  rw [h.cellAt _ (by omega), List.getElem?_eq_getElem (by rw [h.1]; omega)]
  rfl

theorem own_put {w : World} {base g n cap : Nat} {T : TypeId} {its : List Itm} (h : w.ownsRow base T 3 (.slice (some ⟨g, 0, none⟩) n cap) n (enc its)) (j : Nat) (x : Itm) :
    (w.setCells g (j * 3) [.int .i64 x.1, .int .i64 x.2.1, .int .i64 x.2.2]).ownsRow base T 3 (.slice (some ⟨g, 0, none⟩) n cap) n (enc (its.set j x)) ∧ w.grownBy (w.setCells g (j * 3) [.int .i64 x.1, .int .i64 x.2.1, .int .i64 x.2.2]) (some g) := by
  have s1 := h.stored (j * 3) (.int .i64 x.1)
  have s2 := s1.1.stored (j * 3 + 1) (.int .i64 x.2.1)
  have s3 := s2.1.stored (j * 3 + 1 + 1) (.int .i64 x.2.2)
  refine ⟨?_, ?_⟩
  · rw [← enc_set]
    exact s3.1
  · have hall : ∀ k, k < w.heap.size → some k ≠ some g → (w.setCells g (j * 3) [.int .i64 x.1, .int .i64 x.2.1, .int .i64 x.2.2]).heap[k]? = w.heap[k]? := fun k hk hne => by
      have t1 := s1.2.block k hk hne
      have t2 := s2.2.block k (by have := s1.2.size; omega) hne
      have t3 := s3.2.block k (by have := s1.2.size; have := s2.2.size; omega) hne
      exact t3.trans (t2.trans t1)
    exact ⟨rfl, rfl, rfl, by have := s1.2.size; have := s2.2.size; have := s3.2.size; simp [World.setCells, World.setCell], hall⟩

theorem getD_of {its : List Itm} {i : Nat} {a : Itm} (h : its[i]? = some a) : its.getD i z = a := by rw [List.getD_eq_getElem?_getD, h]; rfl

theorem upd_swap {f : Int → Option Int} {its : List Itm} (h : Fits f its) {i j : Nat} {a b : Itm} (ha : its[i]? = some a) (hb : its[j]? = some b) : Fits (upd (upd f b.1 (some (i : Int))) a.1 (some (j : Int))) (swapL its i j) := by
  have := h.swap ha hb
  exact this

theorem set_swap {its : List Itm} {i j : Nat} {a b : Itm} (ha : its[i]? = some a) (hb : its[j]? = some b) : (its.set i b).set j a = swapL its i j := by
  rw [swapL, getD_of ha, getD_of hb]

def tb92_0.T0 : Bool × List (List Nat × List Nat) := (true, [([], []), ([0], [0]), ([1], [1]), ([2], [2]), ([], []), ([], []), ([5], [5]), ([6], [6]), ([7], [7]), ([], []), ([], []), ([10], [10]), ([11], [11]), ([12], [12]), ([], []), ([13, 14], [13, 14]), ([15], [15]), ([], []), ([17], [17]), ([18], [18]), ([19], [19]), ([], []), ([20, 21], [20, 21]), ([22], [22]), ([3, 4, 0, 1, 2, 3, 4, 8, 10, 11, 12, 13, 14, 15, 16, 20, 23], [3, 4]), ([24, 16, 0, 1, 2, 3, 4, 8, 10, 11, 12, 13, 14, 15, 16, 20, 23], [16, 24]), ([8, 9, 0, 1, 2, 3, 4, 5, 6, 7, 8, 9, 10, 11, 12, 13, 14, 15, 16, 17, 18, 19, 20, 21, 22, 23, 24, 25], [8, 9]), ([26, 23, 25, 0, 1, 2, 3, 4, 5, 6, 7, 8, 9, 10, 11, 12, 13, 14, 15, 16, 17, 18, 19, 20, 21, 22, 23, 24, 25], [23, 26])])
def tb92_0.B0 : List Nat := [0, 1, 3, 7, 0, 0, 32, 96, 224, 0, 0, 1024, 3072, 7168, 0, 31744, 64512, 0, 131072, 393216, 917504, 0, 4063232, 8257536, 16776703, 33553919, 67108863, 134217727]
theorem tb92_0.tab0 : rtab .any (opsOf Try.f92 0) = tb92_0.T0 := by kernel_rfl
theorem tb92_0.bits0 : waitsOk tb92_0.T0.2 tb92_0.B0 = true := by kernel_rfl
def tb92_1.T1 : Bool × List (List Nat × List Nat) := (true, [([], []), ([0], [0]), ([1], [1]), ([2], [2]), ([], []), ([4], [4]), ([5], [5]), ([6], [6]), ([], []), ([7, 8], [7, 8]), ([9], [9]), ([10], [10]), ([], []), ([12], [12]), ([13], [13]), ([14], [14]), ([], []), ([16], [16]), ([17], [17]), ([18], [18]), ([], []), ([19, 20], [19, 20]), ([21], [21]), ([22], [22]), ([], []), ([], []), ([3, 11, 15, 19, 23], [3, 11]), ([26], [26]), ([3, 27, 24, 26, 0, 1, 2, 3, 4, 5, 6, 7, 8, 9, 10, 11, 15, 19, 23, 24, 26], [3, 24, 27]), ([15, 23, 28, 0, 1, 2, 3, 4, 5, 6, 7, 8, 9, 10, 11, 15, 19, 23, 24, 26, 27, 28], [15, 23]), ([29], [29]), ([15, 30, 25, 29, 0, 1, 2, 3, 4, 5, 6, 7, 8, 9, 10, 11, 12, 13, 14, 15, 16, 17, 18, 19, 20, 21, 22, 23, 24, 25, 26, 27, 28, 29], [15, 25, 30])])
def tb92_1.B1 : List Nat := [0, 1, 3, 7, 0, 16, 48, 112, 0, 496, 1008, 2032, 0, 4096, 12288, 28672, 0, 65536, 196608, 458752, 0, 2031616, 4128768, 8323072, 0, 0, 16777215, 83886079, 234881023, 503316479, 1040187391, 2147483647]
theorem tb92_1.tab1 : rtab .any (opsOf Try.f92 1) = tb92_1.T1 := by kernel_rfl
theorem tb92_1.bits1 : waitsOk tb92_1.T1.2 tb92_1.B1 = true := by kernel_rfl
set_option maxHeartbeats 4000000 in
set_option maxRecDepth 100000 in
theorem swap_calls (w : World) (base hb mb i j : Nat) (iv : Value) (its : List Itm) (came : Int) (a b : Itm) (h : Hp w base hb mb iv its came) (ha : its[i]? = some a) (hbb : its[j]? = some b) (hl : its.length ≤ 1000000) :
    Calls Try.prog 92 #[.pointer (some ⟨hb, 0, none⟩), .int .i64 (i : Int), .int .i64 (j : Int)] w fun e w' => e = .returned (.tuple #[]) ∧ Hp w' base hb mb iv (swapL its i j) came ∧ HK hb mb iv w w' := by
  have hi : i < its.length := (List.getElem?_eq_some_iff.1 ha).1
  have hj : j < its.length := (List.getElem?_eq_some_iff.1 hbb).1
  have i0 : (0 : Int) ≤ (i : Int) := by omega
  have i1 : (i : Int) < (its.length : Int) := by omega
  have j0 : (0 : Int) ≤ (j : Int) := by omega
  have j1 : (j : Int) < (its.length : Int) := by omega
  have hat := h.hat
  obtain ⟨f, hmp, hfit⟩ := h.mp
  have hown := h.own
  obtain ⟨g, cap, rfl, hbg, hglt⟩ := hown.form (by omega)
  have hlb := h.lb
  have hlm := h.lm
  have hswl := swapL_length its i j
  obtain ⟨n, hn⟩ : ∃ n, its.length = n := ⟨_, rfl⟩
  have d1 := hat.cell 1 rfl
  have xa := enc_at its i a ha
  have xb := enc_at its j b hbb
  rw [hn] at hown hat i1 j1 d1 hswl
  have a0 := (hown.cellAt (i * 3) (by omega)).trans xa.1
  have a1 := (hown.cellAt (i * 3 + 1) (by omega)).trans xa.2.1
  have a2 := (hown.cellAt (i * 3 + 2) (by omega)).trans xa.2.2
  have b0 := (hown.cellAt (j * 3) (by omega)).trans xb.1
  have b1 := (hown.cellAt (j * 3 + 1) (by omega)).trans xb.2.1
  have b2 := (hown.cellAt (j * 3 + 2) (by omega)).trans xb.2.2
  have o1 := own_put (x := b) (j := i) (show w.drew.ownsRow base 139 3 (.slice (some ⟨g, 0, none⟩) n cap) n (enc its) from hown)
  have o2 := own_put o1.1 j a
  rw [set_swap ha hbb] at o2
  have HTi := Lib.hid (own_there (show w.drew.ownsRow base 139 3 (.slice (some ⟨g, 0, none⟩) n cap) n (enc its) from hown) (show i < n by omega))
  have HTj := Lib.hid (own_there o1.1 (show j < n by omega))
  have hne : hb ≠ g := by omega
  have hneM : mb ≠ g := by omega
  have hat2 : At (World.setCells (World.setCells w.drew g (i * 3) [.int .i64 b.1, .int .i64 b.2.1, .int .i64 b.2.2]) g (j * 3) [.int .i64 a.1, .int .i64 a.2.1, .int .i64 a.2.2]) hb [.func (.func 61) #[] #[], .slice (some ⟨g, 0, none⟩) n cap, .map (some mb), .int .i64 came] 137 :=
    ((hat.drew).grown o1.2 (by simp; omega)).grown o2.2 (by simp; omega)
  have hmp2 := ((hmp.drew).grown o1.2 (by simp; omega)).grown o2.2 (by simp; omega)
  have hk2 := ((HK.refl hb mb (.slice (some ⟨g, 0, none⟩) n cap) w).drew.grown o1.2 rfl).grown o2.2 rfl
  have HN := Lib.hid hn
  have HS := Lib.hid (And.intro hat2 (And.intro o2.1 (And.intro hmp2 hk2)))
  have HF := Lib.hid hfit
  have HL := Lib.hid (And.intro hlb (And.intro hlm hbg))
  have HAB := Lib.hid (And.intro ha hbb)
  have HSW := Lib.hid hswl
  clear h hl hi hj hn xa xb hat hmp hfit hown hlb hlm hbg hglt o1 o2 hat2 hmp2 hk2 hne hneM ha hbb hswl
  go_enter Try.func92, Try.ntmps92
  go_wp2
  refine start_ (n := 28) (S := fun w' => w'.cell? ⟨hb, 1, none⟩ = some (.slice (some ⟨g, 0, none⟩) n cap) ∧ w'.cell? ⟨g, i * 3, none⟩ = some (.int .i64 a.1) ∧ w'.cell? ⟨g, i * 3 + 1, none⟩ = some (.int .i64 a.2.1) ∧ w'.cell? ⟨g, i * 3 + 2, none⟩ = some (.int .i64 a.2.2) ∧ w'.cell? ⟨g, j * 3, none⟩ = some (.int .i64 b.1) ∧ w'.cell? ⟨g, j * 3 + 1, none⟩ = some (.int .i64 b.2.1) ∧ w'.cell? ⟨g, j * 3 + 2, none⟩ = some (.int .i64 b.2.2)) (ds := [25, 27]) (bA 28 0) (by kernel_rfl) rfl rfl ⟨d1, a0, a1, a2, b0, b1, b2⟩ (fun hHeld => ?_)
  refine with_tabW tb92_0.tab0 tb92_0.bits0 (fun HT_ HW_ => ?_)
  refine pure_ (i := 0) (N := some 6) (v := ?_) (a' := ?_) (bA 28 1) rfl rfl (any_of HT_.out (by kernel_rfl)) (fun _ _ _ h => h) (Or.inl ⟨by rfl, ?_⟩) ?_ ?_
  rotate_left; · intro w'; go_simp; with_reducible rfl
  rotate_left; · simp only [Act.put, pA, pB, pC, pD, pE]; rfl
  refine pure_ (i := 1) (N := some 7) (v := ?_) (a' := ?_) (bA 28 3) rfl rfl (any_of HT_.out (by kernel_rfl)) (fun _ _ _ h => h) (Or.inl ⟨by rfl, ?_⟩) ?_ ?_
  rotate_left; · intro w'; go_simp; with_reducible rfl
  rotate_left; · simp only [Act.put, pA, pB, pC, pD, pE]; rfl
  refine pure_ (i := 2) (N := some 8) (v := ?_) (a' := ?_) (bA 28 7) rfl rfl (any_of HT_.out (by kernel_rfl)) (fun _ _ _ h => h) (Or.inl ⟨by rfl, ?_⟩) ?_ ?_
  rotate_left; · intro w'; go_simp; with_reducible rfl
  rotate_left; · simp only [Act.put, pA, pB, pC, pD, pE]; rfl
  refine pure_ (i := 4) (N := some 10) (v := ?_) (a' := ?_) (bA 28 23) rfl rfl (any_of HT_.out (by kernel_rfl)) (fun _ _ _ h => h) (Or.inl ⟨by rfl, ?_⟩) ?_ ?_
  rotate_left; · intro w'; go_simp; with_reducible rfl
  rotate_left; · simp only [Act.put, pA, pB, pC, pD, pE]; rfl
  refine pure_ (i := 5) (N := some 11) (v := ?_) (a' := ?_) (bA 28 55) rfl rfl (any_of HT_.out (by kernel_rfl)) (fun _ _ _ h => h) (Or.inl ⟨by rfl, ?_⟩) ?_ ?_
  rotate_left; · intro w'; go_simp; with_reducible rfl
  rotate_left; · simp only [Act.put, pA, pB, pC, pD, pE]; rfl
  refine pure_ (i := 6) (N := some 12) (v := ?_) (a' := ?_) (bA 28 119) rfl rfl (any_of HT_.out (by kernel_rfl)) (fun _ _ _ h => h) (Or.inl ⟨by rfl, ?_⟩) ?_ ?_
  rotate_left; · intro w'; go_simp; with_reducible rfl
  rotate_left; · simp only [Act.put, pA, pB, pC, pD, pE]; rfl
  refine pure_ (i := 7) (N := some 13) (v := ?_) (a' := ?_) (bA 28 247) rfl rfl (any_of HT_.out (by kernel_rfl)) (fun _ _ _ h => h) (Or.inl ⟨by rfl, ?_⟩) ?_ ?_
  rotate_left; · intro w'; go_simp; with_reducible rfl
  rotate_left; · simp only [Act.put, pA, pB, pC, pD, pE]; rfl
  refine pure_ (i := 9) (N := some 15) (v := ?_) (a' := ?_) (bA 28 759) rfl rfl (any_of HT_.out (by kernel_rfl)) (fun _ _ _ h => h) (Or.inl ⟨by rfl, ?_⟩) ?_ ?_
  rotate_left; · intro w'; go_simp; with_reducible rfl
  rotate_left; · simp only [Act.put, pA, pB, pC, pD, pE]; rfl
  refine pure_ (i := 10) (N := some 16) (v := ?_) (a' := ?_) (bA 28 1783) rfl rfl (any_of HT_.out (by kernel_rfl)) (fun _ _ _ h => h) (Or.inl ⟨by rfl, ?_⟩) ?_ ?_
  rotate_left; · intro w'; go_simp; with_reducible rfl
  rotate_left; · simp only [Act.put, pA, pB, pC, pD, pE]; rfl
  refine pure_ (i := 11) (N := some 17) (v := ?_) (a' := ?_) (bA 28 3831) rfl rfl (any_of HT_.out (by kernel_rfl)) (fun _ _ _ h => h) (Or.inl ⟨by rfl, ?_⟩) ?_ ?_
  rotate_left; · intro w'; go_simp; with_reducible rfl
  rotate_left; · simp only [Act.put, pA, pB, pC, pD, pE]; rfl
  refine pure_ (i := 12) (N := some 18) (v := ?_) (a' := ?_) (bA 28 7927) rfl rfl (any_of HT_.out (by kernel_rfl)) (fun _ _ _ h => h) (Or.inl ⟨by rfl, ?_⟩) ?_ ?_
  rotate_left; · intro w'; go_simp; with_reducible rfl
  rotate_left; · simp only [Act.put, pA, pB, pC, pD, pE]; rfl
  refine pure_ (i := 14) (N := some 20) (v := ?_) (a' := ?_) (bA 28 24311) rfl rfl (any_of HT_.out (by kernel_rfl)) (fun _ _ _ h => h) (Or.inl ⟨by rfl, ?_⟩) ?_ ?_
  rotate_left; · intro w'; go_simp; with_reducible rfl
  rotate_left; · simp only [Act.put, pA, pB, pC, pD, pE]; rfl
  refine pure_ (i := 17) (N := some 23) (v := ?_) (a' := ?_) (bA 28 155383) rfl rfl (any_of HT_.out (by kernel_rfl)) (fun _ _ _ h => h) (Or.inl ⟨by rfl, ?_⟩) ?_ ?_
  rotate_left; · intro w'; go_simp; with_reducible rfl
  rotate_left; · simp only [Act.put, pA, pB, pC, pD, pE]; rfl
  refine pure_ (i := 18) (N := some 24) (v := ?_) (a' := ?_) (bA 28 417527) rfl rfl (any_of HT_.out (by kernel_rfl)) (fun _ _ _ h => h) (Or.inl ⟨by rfl, ?_⟩) ?_ ?_
  rotate_left; · intro w'; go_simp; with_reducible rfl
  rotate_left; · simp only [Act.put, pA, pB, pC, pD, pE]; rfl
  refine pure_ (i := 19) (N := some 25) (v := ?_) (a' := ?_) (bA 28 941815) rfl rfl (any_of HT_.out (by kernel_rfl)) (fun _ _ _ h => h) (Or.inl ⟨by rfl, ?_⟩) ?_ ?_
  rotate_left; · intro w'; go_simp; with_reducible rfl
  rotate_left; · simp only [Act.put, pA, pB, pC, pD, pE]; rfl
  refine pure_ (i := 21) (N := some 27) (v := ?_) (a' := ?_) (bA 28 3038967) rfl rfl (any_of HT_.out (by kernel_rfl)) (fun _ _ _ h => h) (Or.inl ⟨by rfl, ?_⟩) ?_ ?_
  rotate_left; · intro w'; go_simp; with_reducible rfl
  rotate_left; · simp only [Act.put, pA, pB, pC, pD, pE]; rfl
  refine take_ (i := 3) (N := some 9) (v := ?_) (a' := ?_) (bA 28 3038975) rfl rfl (take_ofW HT_.out HW_.out (by kernel_rfl)) (fun _ _ _ h => h) (Or.inl ⟨by rfl, ?_⟩) hHeld ?_ ?_
  rotate_left
  · rintro w' ⟨s0, s1, s2, s3, s4, s5, s6⟩
    go_simp; with_reducible rfl
  rotate_left; · simp only [Act.put, pA, pB, pC, pD, pE]; rfl
  refine take_ (i := 8) (N := some 14) (v := ?_) (a' := ?_) (bA 28 3039231) rfl rfl (take_ofW HT_.out HW_.out (by kernel_rfl)) (fun _ _ _ h => h) (Or.inl ⟨by rfl, ?_⟩) hHeld ?_ ?_
  rotate_left
  · rintro w' ⟨s0, s1, s2, s3, s4, s5, s6⟩
    go_simp; with_reducible rfl
  rotate_left; · simp only [Act.put, pA, pB, pC, pD, pE]; rfl
  refine take_ (i := 13) (N := some 19) (v := ?_) (a' := ?_) (bA 28 3047423) rfl rfl (take_ofW HT_.out HW_.out (by kernel_rfl)) (fun _ _ _ h => h) (Or.inl ⟨by rfl, ?_⟩) hHeld ?_ ?_
  rotate_left
  · rintro w' ⟨s0, s1, s2, s3, s4, s5, s6⟩
    go_simp; with_reducible rfl
  rotate_left; · simp only [Act.put, pA, pB, pC, pD, pE]; rfl
  refine pure_ (i := 15) (N := some 21) (v := ?_) (a' := ?_) (bA 28 3080191) rfl rfl (any_of HT_.out (by kernel_rfl)) (fun _ _ _ h => h) (Or.inl ⟨by rfl, ?_⟩) ?_ ?_
  rotate_left; · intro w'; go_simp; with_reducible rfl
  rotate_left; · simp only [Act.put, pA, pB, pC, pD, pE]; rfl
  refine take_ (i := 16) (N := some 22) (v := ?_) (a' := ?_) (bA 28 3145727) rfl rfl (take_ofW HT_.out HW_.out (by kernel_rfl)) (fun _ _ _ h => h) (Or.inl ⟨by rfl, ?_⟩) hHeld ?_ ?_
  rotate_left
  · rintro w' ⟨s0, s1, s2, s3, s4, s5, s6⟩
    go_simp; with_reducible rfl
  rotate_left; · simp only [Act.put, pA, pB, pC, pD, pE]; rfl
  refine take_ (i := 20) (N := some 26) (v := ?_) (a' := ?_) (bA 28 4194303) rfl rfl (take_ofW HT_.out HW_.out (by kernel_rfl)) (fun _ _ _ h => h) (Or.inl ⟨by rfl, ?_⟩) hHeld ?_ ?_
  rotate_left
  · rintro w' ⟨s0, s1, s2, s3, s4, s5, s6⟩
    go_simp; with_reducible rfl
  rotate_left; · simp only [Act.put, pA, pB, pC, pD, pE]; rfl
  refine pure_ (i := 22) (N := some 28) (v := ?_) (a' := ?_) (bA 28 8388607) rfl rfl (any_of HT_.out (by kernel_rfl)) (fun _ _ _ h => h) (Or.inl ⟨by rfl, ?_⟩) ?_ ?_
  rotate_left; · intro w'; go_simp; with_reducible rfl
  rotate_left; · simp only [Act.put, pA, pB, pC, pD, pE]; rfl
  refine take_ (i := 23) (N := some 29) (v := ?_) (a' := ?_) (bA 28 16777215) rfl rfl (take_ofW HT_.out HW_.out (by kernel_rfl)) (fun _ _ _ h => h) (Or.inl ⟨by rfl, ?_⟩) hHeld ?_ ?_
  rotate_left
  · rintro w' ⟨s0, s1, s2, s3, s4, s5, s6⟩
    go_simp; with_reducible rfl
  rotate_left; · simp only [Act.put, pA, pB, pC, pD, pE]; rfl
  refine pure_ (i := 24) (N := some 30) (v := ?_) (a' := ?_) (bA 28 33554431) rfl rfl (any_of HT_.out (by kernel_rfl)) (fun _ _ _ h => h) (Or.inl ⟨by rfl, ?_⟩) ?_ ?_
  rotate_left; · intro w'; go_simp; with_reducible rfl
  rotate_left; · simp only [Act.put, pA, pB, pC, pD, pE]; rfl
  refine last_ (i := 25) (N := none) (bA 28 67108863) rfl rfl (one_of HT_.out (by kernel_rfl)) (by decide) (fun K hK => ?_)
  refine store3_ (by rfl) rfl 139 (.tmp 30) (.tmp 22) (by rfl) g (i * 3) #[.int .i64 b.1, .int .i64 b.2.1, .int .i64 b.2.2] (by rfl) (by rfl) (HTi.out) (by kernel_rfl) (by simp [Value.oneCell']) ?_
  refine hK.out _ _ ?_; clear hK K
  refine pure_ (i := 26) (N := some 31) (v := ?_) (a' := ?_) (bA 28 134217727) rfl rfl (any_of HT_.out (by kernel_rfl)) (fun _ _ _ h => h) (Or.inl ⟨by rfl, ?_⟩) ?_ ?_
  rotate_left; · intro w'; go_simp; with_reducible rfl
  rotate_left; · simp only [Act.put, pA, pB, pC, pD, pE]; rfl
  refine last_ (i := 27) (N := none) (bA 28 268435455) rfl rfl (one_of HT_.out (by kernel_rfl)) (by decide) (fun K hK => ?_)
  refine store3_ (by rfl) rfl 139 (.tmp 31) (.tmp 29) (by rfl) g (j * 3) #[.int .i64 a.1, .int .i64 a.2.1, .int .i64 a.2.2] (by rfl) (by rfl) (HTj.out) (by kernel_rfl) (by simp [Value.oneCell']) ?_
  refine hK.out _ _ ?_; clear hK K
  refine done_ (done_of HT_.out (by kernel_rfl)) ?_
  clear hHeld HT_ HW_
  refine gen_then (fun W => At W hb [.func (.func 61) #[] #[], .slice (some ⟨g, 0, none⟩) n cap, .map (some mb), .int .i64 came] 137 ∧ W.ownsRow base 139 3 (.slice (some ⟨g, 0, none⟩) n cap) n (enc (swapL its i j)) ∧ MP W mb f ∧ HK hb mb (.slice (some ⟨g, 0, none⟩) n cap) w W) HS.out ?_
  clear HS HTi HTj d1 a0 a1 a2 b0 b1 b2
  rintro W ⟨hat, hown, hmp, hk⟩
  have d1 := hat.cell 1 rfl
  have d2 := hat.cell 2 rfl
  have hij : i < its.length ∧ j < its.length := ⟨(List.getElem?_eq_some_iff.1 HAB.out.1).1, (List.getElem?_eq_some_iff.1 HAB.out.2).1⟩
  have hn := HN.out
  have si : (swapL its i j)[i]? = some b := by
    rw [swapL_get its hij.1 hij.2]
    by_cases hij' : i = j
    · subst hij'
      rw [if_pos rfl, HAB.out.1, ← HAB.out.2, HAB.out.1]
    · rw [if_neg hij', if_pos rfl]
      exact HAB.out.2
  have sj : (swapL its i j)[j]? = some a := by rw [swapL_get its hij.1 hij.2, if_pos rfl]; exact HAB.out.1
  have c0 := (hown.cellAt (i * 3) (by omega)).trans (enc_at _ i b si).1
  have c1 := (hown.cellAt (j * 3) (by omega)).trans (enc_at _ j a sj).1
  have f1 : f b.1 = some (j : Int) := (HF.out b.1 j).2 ⟨j, rfl, b, HAB.out.2, rfl⟩
  have f2 : f a.1 = some (i : Int) := (HF.out a.1 i).2 ⟨i, rfl, a, HAB.out.1, rfl⟩
  obtain ⟨st1, ob1, e1, e2, hmp1⟩ := MP.entry (P := Try.prog) (T := 134) (show MP W.drew mb f from hmp) Try.underlying134 Try.underlying3 b.1 (i : Int) (j : Int) f1
  obtain ⟨v2, f3⟩ : ∃ v2, upd f b.1 (some (i : Int)) a.1 = some v2 := by
    unfold upd
    split
    · exact ⟨_, rfl⟩
    · exact ⟨_, f2⟩
  obtain ⟨st2, ob2, e3, e4, hmp2⟩ := MP.entry (P := Try.prog) (T := 134) hmp1 Try.underlying134 Try.underlying3 a.1 (j : Int) v2 f3
  have hbm : hb ≠ mb := hmp.ne hat
  have hown2 := own_putObj (o := ob1) (show W.drew.ownsRow base 139 3 (.slice (some ⟨g, 0, none⟩) n cap) n (enc (swapL its i j)) from hown) HL.out.2.1
  have hat2 := (hat.drew).putObj (o := ob1) hbm
  have d1' := hat2.cell 1 rfl
  have d2' := hat2.cell 2 rfl
  have c0' := (hown2.cellAt (i * 3) (by omega)).trans (enc_at _ i b si).1
  have c1' := (hown2.cellAt (j * 3) (by omega)).trans (enc_at _ j a sj).1
  have HE := Lib.hid (And.intro (hat2.putObj (o := ob2) hbm) (And.intro (own_putObj (o := ob2) hown2 HL.out.2.1) (And.intro hmp2 ((hk.drew.put ob1).put ob2))))
  clear hat hown hmp hk hij hn si sj f1 f2 f3 hmp1 hmp2 hbm hown2 hat2
  go_wp2
  refine start_ (n := 32) (S := fun w' => w'.cell? ⟨hb, 1, none⟩ = some (.slice (some ⟨g, 0, none⟩) n cap) ∧ w'.cell? ⟨hb, 2, none⟩ = some (.map (some mb)) ∧ w'.cell? ⟨g, i * 3, none⟩ = some (.int .i64 b.1) ∧ w'.cell? ⟨g, j * 3, none⟩ = some (.int .i64 a.1)) (ds := [31]) (bA 32 0) (by kernel_rfl) rfl rfl ⟨d1, d2, c0, c1⟩ (fun hHeld => ?_)
  refine with_tabW tb92_1.tab1 tb92_1.bits1 (fun HT_ HW_ => ?_)
  refine pure_ (i := 0) (N := some 32) (v := ?_) (a' := ?_) (bA 32 1) rfl rfl (any_of HT_.out (by kernel_rfl)) (fun _ _ _ h => h) (Or.inl ⟨by rfl, ?_⟩) ?_ ?_
  rotate_left; · intro w'; go_simp; with_reducible rfl
  rotate_left; · simp only [Act.put, pA, pB, pC, pD, pE]; rfl
  refine pure_ (i := 1) (N := some 33) (v := ?_) (a' := ?_) (bA 32 3) rfl rfl (any_of HT_.out (by kernel_rfl)) (fun _ _ _ h => h) (Or.inl ⟨by rfl, ?_⟩) ?_ ?_
  rotate_left; · intro w'; go_simp; with_reducible rfl
  rotate_left; · simp only [Act.put, pA, pB, pC, pD, pE]; rfl
  refine pure_ (i := 2) (N := some 34) (v := ?_) (a' := ?_) (bA 32 7) rfl rfl (any_of HT_.out (by kernel_rfl)) (fun _ _ _ h => h) (Or.inl ⟨by rfl, ?_⟩) ?_ ?_
  rotate_left; · intro w'; go_simp; with_reducible rfl
  rotate_left; · simp only [Act.put, pA, pB, pC, pD, pE]; rfl
  refine pure_ (i := 4) (N := some 36) (v := ?_) (a' := ?_) (bA 32 23) rfl rfl (any_of HT_.out (by kernel_rfl)) (fun _ _ _ h => h) (Or.inl ⟨by rfl, ?_⟩) ?_ ?_
  rotate_left; · intro w'; go_simp; with_reducible rfl
  rotate_left; · simp only [Act.put, pA, pB, pC, pD, pE]; rfl
  refine pure_ (i := 5) (N := some 37) (v := ?_) (a' := ?_) (bA 32 55) rfl rfl (any_of HT_.out (by kernel_rfl)) (fun _ _ _ h => h) (Or.inl ⟨by rfl, ?_⟩) ?_ ?_
  rotate_left; · intro w'; go_simp; with_reducible rfl
  rotate_left; · simp only [Act.put, pA, pB, pC, pD, pE]; rfl
  refine pure_ (i := 6) (N := some 38) (v := ?_) (a' := ?_) (bA 32 119) rfl rfl (any_of HT_.out (by kernel_rfl)) (fun _ _ _ h => h) (Or.inl ⟨by rfl, ?_⟩) ?_ ?_
  rotate_left; · intro w'; go_simp; with_reducible rfl
  rotate_left; · simp only [Act.put, pA, pB, pC, pD, pE]; rfl
  refine pure_ (i := 8) (N := some 40) (v := ?_) (a' := ?_) (bA 32 375) rfl rfl (any_of HT_.out (by kernel_rfl)) (fun _ _ _ h => h) (Or.inl ⟨by rfl, ?_⟩) ?_ ?_
  rotate_left; · intro w'; go_simp; with_reducible rfl
  rotate_left; · simp only [Act.put, pA, pB, pC, pD, pE]; rfl
  refine pure_ (i := 12) (N := some 44) (v := ?_) (a' := ?_) (bA 32 4471) rfl rfl (any_of HT_.out (by kernel_rfl)) (fun _ _ _ h => h) (Or.inl ⟨by rfl, ?_⟩) ?_ ?_
  rotate_left; · intro w'; go_simp; with_reducible rfl
  rotate_left; · simp only [Act.put, pA, pB, pC, pD, pE]; rfl
  refine pure_ (i := 13) (N := some 45) (v := ?_) (a' := ?_) (bA 32 12663) rfl rfl (any_of HT_.out (by kernel_rfl)) (fun _ _ _ h => h) (Or.inl ⟨by rfl, ?_⟩) ?_ ?_
  rotate_left; · intro w'; go_simp; with_reducible rfl
  rotate_left; · simp only [Act.put, pA, pB, pC, pD, pE]; rfl
  refine pure_ (i := 14) (N := some 46) (v := ?_) (a' := ?_) (bA 32 29047) rfl rfl (any_of HT_.out (by kernel_rfl)) (fun _ _ _ h => h) (Or.inl ⟨by rfl, ?_⟩) ?_ ?_
  rotate_left; · intro w'; go_simp; with_reducible rfl
  rotate_left; · simp only [Act.put, pA, pB, pC, pD, pE]; rfl
  refine pure_ (i := 16) (N := some 48) (v := ?_) (a' := ?_) (bA 32 94583) rfl rfl (any_of HT_.out (by kernel_rfl)) (fun _ _ _ h => h) (Or.inl ⟨by rfl, ?_⟩) ?_ ?_
  rotate_left; · intro w'; go_simp; with_reducible rfl
  rotate_left; · simp only [Act.put, pA, pB, pC, pD, pE]; rfl
  refine pure_ (i := 17) (N := some 49) (v := ?_) (a' := ?_) (bA 32 225655) rfl rfl (any_of HT_.out (by kernel_rfl)) (fun _ _ _ h => h) (Or.inl ⟨by rfl, ?_⟩) ?_ ?_
  rotate_left; · intro w'; go_simp; with_reducible rfl
  rotate_left; · simp only [Act.put, pA, pB, pC, pD, pE]; rfl
  refine pure_ (i := 18) (N := some 50) (v := ?_) (a' := ?_) (bA 32 487799) rfl rfl (any_of HT_.out (by kernel_rfl)) (fun _ _ _ h => h) (Or.inl ⟨by rfl, ?_⟩) ?_ ?_
  rotate_left; · intro w'; go_simp; with_reducible rfl
  rotate_left; · simp only [Act.put, pA, pB, pC, pD, pE]; rfl
  refine pure_ (i := 20) (N := some 52) (v := ?_) (a' := ?_) (bA 32 1536375) rfl rfl (any_of HT_.out (by kernel_rfl)) (fun _ _ _ h => h) (Or.inl ⟨by rfl, ?_⟩) ?_ ?_
  rotate_left; · intro w'; go_simp; with_reducible rfl
  rotate_left; · simp only [Act.put, pA, pB, pC, pD, pE]; rfl
  refine pure_ (i := 24) (N := some 56) (v := ?_) (a' := ?_) (bA 32 18313591) rfl rfl (any_of HT_.out (by kernel_rfl)) (fun _ _ _ h => h) (Or.inl ⟨by rfl, ?_⟩) ?_ ?_
  rotate_left; · intro w'; go_simp; with_reducible rfl
  rotate_left; · simp only [Act.put, pA, pB, pC, pD, pE]; rfl
  refine pure_ (i := 25) (N := some 57) (v := ?_) (a' := ?_) (bA 32 51868023) rfl rfl (any_of HT_.out (by kernel_rfl)) (fun _ _ _ h => h) (Or.inl ⟨by rfl, ?_⟩) ?_ ?_
  rotate_left; · intro w'; go_simp; with_reducible rfl
  rotate_left; · simp only [Act.put, pA, pB, pC, pD, pE]; rfl
  refine take_ (i := 3) (N := some 35) (v := ?_) (a' := ?_) (bA 32 51868031) rfl rfl (take_ofW HT_.out HW_.out (by kernel_rfl)) (fun _ _ _ h => h) (Or.inl ⟨by rfl, ?_⟩) hHeld ?_ ?_
  rotate_left
  · rintro w' ⟨s0, s1, s2, s3⟩
    go_simp; with_reducible rfl
  rotate_left; · simp only [Act.put, pA, pB, pC, pD, pE]; rfl
  refine take_ (i := 7) (N := some 39) (v := ?_) (a' := ?_) (bA 32 51868159) rfl rfl (take_ofW HT_.out HW_.out (by kernel_rfl)) (fun _ _ _ h => h) (Or.inl ⟨by rfl, ?_⟩) hHeld ?_ ?_
  rotate_left
  · rintro w' ⟨s0, s1, s2, s3⟩
    go_simp; with_reducible rfl
  rotate_left; · simp only [Act.put, pA, pB, pC, pD, pE]; rfl
  refine pure_ (i := 9) (N := some 41) (v := ?_) (a' := ?_) (bA 32 51868671) rfl rfl (any_of HT_.out (by kernel_rfl)) (fun _ _ _ h => h) (Or.inl ⟨by rfl, ?_⟩) ?_ ?_
  rotate_left; · intro w'; go_simp; with_reducible rfl
  rotate_left; · simp only [Act.put, pA, pB, pC, pD, pE]; rfl
  refine pure_ (i := 10) (N := some 42) (v := ?_) (a' := ?_) (bA 32 51869695) rfl rfl (any_of HT_.out (by kernel_rfl)) (fun _ _ _ h => h) (Or.inl ⟨by rfl, ?_⟩) ?_ ?_
  rotate_left; · intro w'; go_simp; with_reducible rfl
  rotate_left; · simp only [Act.put, pA, pB, pC, pD, pE]; rfl
  refine take_ (i := 11) (N := some 43) (v := ?_) (a' := ?_) (bA 32 51871743) rfl rfl (take_ofW HT_.out HW_.out (by kernel_rfl)) (fun _ _ _ h => h) (Or.inl ⟨by rfl, ?_⟩) hHeld ?_ ?_
  rotate_left
  · rintro w' ⟨s0, s1, s2, s3⟩
    go_simp; with_reducible rfl
  rotate_left; · simp only [Act.put, pA, pB, pC, pD, pE]; rfl
  refine take_ (i := 15) (N := some 47) (v := ?_) (a' := ?_) (bA 32 51904511) rfl rfl (take_ofW HT_.out HW_.out (by kernel_rfl)) (fun _ _ _ h => h) (Or.inl ⟨by rfl, ?_⟩) hHeld ?_ ?_
  rotate_left
  · rintro w' ⟨s0, s1, s2, s3⟩
    go_simp; with_reducible rfl
  rotate_left; · simp only [Act.put, pA, pB, pC, pD, pE]; rfl
  refine take_ (i := 19) (N := some 51) (v := ?_) (a' := ?_) (bA 32 52428799) rfl rfl (take_ofW HT_.out HW_.out (by kernel_rfl)) (fun _ _ _ h => h) (Or.inl ⟨by rfl, ?_⟩) hHeld ?_ ?_
  rotate_left
  · rintro w' ⟨s0, s1, s2, s3⟩
    go_simp; with_reducible rfl
  rotate_left; · simp only [Act.put, pA, pB, pC, pD, pE]; rfl
  refine pure_ (i := 21) (N := some 53) (v := ?_) (a' := ?_) (bA 32 54525951) rfl rfl (any_of HT_.out (by kernel_rfl)) (fun _ _ _ h => h) (Or.inl ⟨by rfl, ?_⟩) ?_ ?_
  rotate_left; · intro w'; go_simp; with_reducible rfl
  rotate_left; · simp only [Act.put, pA, pB, pC, pD, pE]; rfl
  refine pure_ (i := 22) (N := some 54) (v := ?_) (a' := ?_) (bA 32 58720255) rfl rfl (any_of HT_.out (by kernel_rfl)) (fun _ _ _ h => h) (Or.inl ⟨by rfl, ?_⟩) ?_ ?_
  rotate_left; · intro w'; go_simp; with_reducible rfl
  rotate_left; · simp only [Act.put, pA, pB, pC, pD, pE]; rfl
  refine take_ (i := 23) (N := some 55) (v := ?_) (a' := ?_) (bA 32 67108863) rfl rfl (take_ofW HT_.out HW_.out (by kernel_rfl)) (fun _ _ _ h => h) (Or.inl ⟨by rfl, ?_⟩) hHeld ?_ ?_
  rotate_left
  · rintro w' ⟨s0, s1, s2, s3⟩
    go_simp; with_reducible rfl
  rotate_left; · simp only [Act.put, pA, pB, pC, pD, pE]; rfl
  refine one_ (i := 26) (N := some 58) (bA 32 134217727) rfl rfl (one_of HT_.out (by kernel_rfl)) (by decide) (fun K hK => ?_)
  refine value_ (w1 := ?_) (v := ?_) (by rfl) rfl ?_ ?_
  rotate_left 2
  · go_simp
    constructor
    · rfl
    · rfl
  refine hK.out _ _ ⟨d1, d2, c0, c1⟩ (fun hHeld => ?_)
  clear hK K
  refine norm_ (a' := ?_) ?_ ?_
  rotate_left
  · show Act.put _ (some 58) _ = _
    simp only [Act.put, pA, pB, pC, pD, pE]; rfl
  refine pure_ (i := 27) (N := some 59) (v := ?_) (a' := ?_) (bA 32 268435455) rfl rfl (any_of HT_.out (by kernel_rfl)) (fun _ _ _ h => h) (Or.inl ⟨by rfl, ?_⟩) ?_ ?_
  rotate_left; · intro w'; go_simp; with_reducible rfl
  rotate_left; · simp only [Act.put, pA, pB, pC, pD, pE]; rfl
  refine one_ (i := 28) (N := none) (bA 32 536870911) rfl rfl (one_of HT_.out (by kernel_rfl)) (by decide) (fun K hK => ?_)
  refine skip_ (w1 := ?_) (by rfl) rfl ?_ ?_
  rotate_left; · go_simp; rfl
  refine hK.out _ _ ⟨d1', d2', c0', c1'⟩ (fun hHeld => ?_)
  clear hK K
  refine one_ (i := 29) (N := some 60) (bA 32 1073741823) rfl rfl (one_of HT_.out (by kernel_rfl)) (by decide) (fun K hK => ?_)
  refine value_ (w1 := ?_) (v := ?_) (by rfl) rfl ?_ ?_
  rotate_left 2
  · go_simp
    constructor
    · rfl
    · rfl
  refine hK.out _ _ ⟨d1', d2', c0', c1'⟩ (fun hHeld => ?_)
  clear hK K
  refine norm_ (a' := ?_) ?_ ?_
  rotate_left
  · show Act.put _ (some 60) _ = _
    simp only [Act.put, pA, pB, pC, pD, pE]; rfl
  refine pure_ (i := 30) (N := some 61) (v := ?_) (a' := ?_) (bA 32 2147483647) rfl rfl (any_of HT_.out (by kernel_rfl)) (fun _ _ _ h => h) (Or.inl ⟨by rfl, ?_⟩) ?_ ?_
  rotate_left; · intro w'; go_simp; with_reducible rfl
  rotate_left; · simp only [Act.put, pA, pB, pC, pD, pE]; rfl
  refine last_ (i := 31) (N := none) (bA 32 4294967295) rfl rfl (one_of HT_.out (by kernel_rfl)) (by decide) (fun K hK => ?_)
  refine skip_ (w1 := ?_) (by rfl) rfl ?_ ?_
  rotate_left; · go_simp; rfl
  refine hK.out _ _ ?_; clear hK K
  refine done_ (done_of HT_.out (by kernel_rfl)) ?_
  clear hHeld HT_ HW_
  go_wp2
  go_end0
  obtain ⟨h1, h2, h3, h4⟩ := HE.out
  have hsw := HSW.out
  have hn := HN.out
  refine ⟨rfl, ⟨by rw [hn]; exact h1, by rw [hn, hsw]; exact h2, ⟨_, h3, upd_swap HF.out HAB.out.1 HAB.out.2⟩, HL.out.1, HL.out.2.1⟩, by rw [hn]; exact h4⟩

end Go.Proofs.Ytdohfjidnbhfnaa.Hp

/- heap.Heap[int, int]: up. -/
namespace Go.Proofs.Ytdohfjidnbhfnaa.Hp
open Go Go.RowKit Go.Proofs.Ytdohfjidnbhfnaa.Mem Go.Proofs.Ytdohfjidnbhfnaa.Hq Go.Proofs.YtdohfjidnbhfnaaW.PrintWords Go.Proofs.YtdohfjidnbhfnaaW.PrintLast
attribute [local go_sem ↓] Go.wp_at_zero Go.wp_at_succ
set_option linter.unusedSimpArgs false
set_option linter.unusedVariables false

def UpRel (w : World) (base hb mb : Nat) (iv : Value) (came : Int) (R : List Itm) (k : Nat) (v : Value) (w' : World) : Prop :=
  ∃ its i, upS k its i = some R ∧ its.length ≤ 1000000 ∧ v = .int .i64 ((i : Nat) : Int) ∧ Hp w' base hb mb iv its came ∧ HK hb mb iv w w'

set_option maxHeartbeats 4000000 in
set_option maxRecDepth 100000 in
theorem up_calls (w : World) (base hb mb i k : Nat) (iv : Value) (its R : List Itm) (came : Int) (h : Hp w base hb mb iv its came) (hl : its.length ≤ 1000000) (hR : upS k its i = some R) :
    Calls Try.prog 75 #[.pointer (some ⟨hb, 0, none⟩), .int .i64 (i : Int)] w fun e w' => e = .returned (.tuple #[]) ∧ Hp w' base hb mb iv R came ∧ HK hb mb iv w w' := by
  have HS := Lib.hid (And.intro hR (And.intro hl h))
  clear hR hl h
  go_enter Try.func75, Try.ntmps75
  go_wp2_with fail
  go_loopg [1] k (fun kq v1 w' => Hid (UpRel w base hb mb iv came R kq v1 w'))
  case atStart => exact Lib.hid ⟨its, i, HS.out.1, HS.out.2.1, rfl, HS.out.2.2, HK.refl _ _ _ _⟩
  case round =>
    clear HS
    obtain ⟨its, i, hR, hl, rfl, hp, hk⟩ := hrel.out
    clear hrel
    cases gk with
    | zero => simp [upS] at hR
    | succ k1 =>
      rw [upS] at hR
      by_cases hi : i < its.length
      · rw [if_pos hi] at hR
        by_cases h0 : 0 < i
        · rw [if_pos h0] at hR
          obtain ⟨a, ha⟩ : ∃ a, its[i]? = some a := ⟨_, List.getElem?_eq_getElem hi⟩
          obtain ⟨p, hpq⟩ : ∃ p, (i - 1) / 2 = p := ⟨_, rfl⟩
          obtain ⟨b, hb'⟩ : ∃ b, its[p]? = some b := ⟨_, List.getElem?_eq_getElem (by omega)⟩
          rw [hpq, getD_of ha, getD_of hb'] at hR
          have e1 : decide ((i : Int) > 0) = true := by simpa using h0
          have e2 : wrap64 ((i : Int) - 1) = (i : Int) - 1 := by unfold wrap64; omega
          have e3 : wrap64 (((i : Int) - 1).tdiv 2) = (p : Int) := by rw [Int.tdiv_eq_ediv_of_nonneg (by omega)]; unfold wrap64; omega
          have HP := Lib.hid hp
          have HKK := Lib.hid hk
          have HR := Lib.hid hR
          have HI := Lib.hid (And.intro hi (And.intro hl (And.intro ha hb')))
          clear hp hk hR hi hl ha hb' hpq e1
          go_wp2_with fail
          refine (ahead_calls _ base hb mb i p iv its came a b HP.out HI.out.2.2.1 HI.out.2.2.2 HI.out.2.1).mono ?_
          rintro e w1 ⟨rfl, hb1⟩
          have HB1 := Lib.hid hb1
          clear hb1
          by_cases hah : aheadI a b = true
          · have HP1 := Lib.hid (HP.out.below HB1.out)
            have HK1 := Lib.hid (HKK.out.below HB1.out)
            have hR := HR.out
            rw [if_pos hah] at hR
            have HR1 := Lib.hid hR
            clear hR HR HP HKK HB1
            go_wp2_with fail
            refine (swap_calls _ base hb mb i p iv its came a b HP1.out HI.out.2.2.1 HI.out.2.2.2 HI.out.2.1).mono ?_
            rintro e w2 ⟨rfl, hp2, hk2⟩
            have HP2 := Lib.hid hp2
            have HK2 := Lib.hid (HK1.out.trans hk2)
            clear hp2 hk2 HP1 HK1
            go_wp2_with fail
            go_roundg k1
            case measure => omega
            case rel => exact Lib.hid ⟨swapL its i p, p, HR1.out, by rw [swapL_length]; exact HI.out.2.1, by rw [e3], HP2.out, HK2.out⟩
          · have hR := HR.out
            rw [if_neg hah] at hR
            obtain rfl := Option.some.inj hR
            have HP1 := Lib.hid (HP.out.below HB1.out)
            have HK1 := Lib.hid (HKK.out.below HB1.out)
            have hah : aheadI a b = false := by simpa using hah
            clear hR HR HP HKK HB1
            go_wp2_with fail
            go_end0
            exact ⟨rfl, HP1.out, HK1.out⟩
        · rw [if_neg h0] at hR
          obtain rfl := Option.some.inj hR
          have HP1 := Lib.hid hp
          have HK1 := Lib.hid hk
          clear hR hp hk hi hl
          go_wp2_with fail
          go_end0
          exact ⟨rfl, HP1.out, HK1.out⟩
      · rw [if_neg hi] at hR; cases hR

end Go.Proofs.Ytdohfjidnbhfnaa.Hp
