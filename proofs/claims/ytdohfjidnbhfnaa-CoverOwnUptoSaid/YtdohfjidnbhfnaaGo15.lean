/- heap.Heap[int, int] in memory; its less; ahead; swap. -/
import Derived.Test.YtdohfjidnbhfnaaProg
import Derived.Test.YtdohfjidnbhfnaaGo14
import Derived.Test.YtdohfjidnbhfnaaGo2
import Derived.Test.YtdohfjidnbhfnaaGo4
import Derived.KernelRfl
import Derived.Deep.DrawnRows
import Derived.BigRegion
import Derived.Outline
import Derived.WalkLawsBesides
import Derived.WalkSpells
import Derived.Lib.Hide
import Derived.Deep.DeepCutAuto
import Derived.Deep.LoopGhost
namespace Go.Proofs.Ytdohfjidnbhfnaa.Hp
open Go Go.RowKit Go.Proofs.Ytdohfjidnbhfnaa.Mem Go.Proofs.Ytdohfjidnbhfnaa.Hq Go.Proofs.YtdohfjidnbhfnaaW.PrintWords Go.Proofs.YtdohfjidnbhfnaaW.PrintLast
attribute [local go_sem ↓] Go.wp_at_zero Go.wp_at_succ
set_option linter.unusedSimpArgs false
set_option linter.unusedVariables false

theorem info_item : (Try.prog.info? 139).map (fun i => (i.zero, i.size, i.bytes)) = some (some (.agg #[.int .i64 0, .int .i64 0, .int .i64 0]), 3, 24) := by kernel_rfl

theorem goesV_ {P : Program} {ops : Array Oper} {Q : Exit → Act → World → Prop} {oi : Oper} {N : Option Tmp} {a : Act} {w : World} {K : Act → World → Prop} {f : FuncId} {fn : Func} {opds : Array Operand} {ts : Array TypeId} (hf : P.funcs[f]? = some fn) (hname : (fn.name == "runtime.NumGoroutine") = false) (hb : fn.body.isSome = true) (args : Array Value)
    (hw : Region.wanted oi (yielded ops a.tmps) = true) (hN : oi.dst = N) (t : Operand) (ht : a.eval t = .func (.func f) #[] #[]) (hop : oi.op = .call { callee := .value t, args := opds, argTypes := ts }) (hargs : opds.map a.eval = args)
    (h : Calls P f args w fun e w' => ∃ v, e = .returned v ∧ K (a.put N v) w') : if Region.wanted oi (yielded ops a.tmps) = true then Oper.wp P oi a w K Q else K (a.put N undef) w := by
  refine call_ f args hw hN ?_ h
  have he := enters_ hf hname hb args w
  unfold execOp
  simp [hop, resolve, Deferred.ofValue, invoke, ht, hargs, he]

def enc (l : List Itm) : List Value := l.flatMap fun p => [.int .i64 p.1, .int .i64 p.2.1, .int .i64 p.2.2]
theorem enc_length (l : List Itm) : (enc l).length = l.length * 3 := by
  induction l with
  | nil => rfl
  | cons p r ih => simp only [enc, List.flatMap_cons, List.length_append, List.length_cons, List.length_nil] at *; omega
theorem enc_cons (p : Itm) (l : List Itm) : enc (p :: l) = .int .i64 p.1 :: .int .i64 p.2.1 :: .int .i64 p.2.2 :: enc l := by simp [enc]
theorem enc_append (a b : List Itm) : enc (a ++ b) = enc a ++ enc b := by simp [enc]
theorem enc_at : ∀ (l : List Itm) (n : Nat) (x : Itm), l[n]? = some x → (enc l)[n * 3]? = some (.int .i64 x.1) ∧ (enc l)[n * 3 + 1]? = some (.int .i64 x.2.1) ∧ (enc l)[n * 3 + 2]? = some (.int .i64 x.2.2)
  | [], n, x, h => by simp at h
  | p :: l, 0, x, h => by
    cases h
    rw [enc_cons]
    exact ⟨rfl, rfl, rfl⟩
  | p :: l, n + 1, x, h => by
    have := enc_at l n x (by simpa using h)
    rw [enc_cons, show (n + 1) * 3 = n * 3 + 1 + 1 + 1 by omega]
    exact this
theorem enc_set : ∀ (l : List Itm) (n : Nat) (x : Itm), (((enc l).set (n * 3) (.int .i64 x.1)).set (n * 3 + 1) (.int .i64 x.2.1)).set (n * 3 + 2) (.int .i64 x.2.2) = enc (l.set n x)
  | [], n, x => by simp [enc]
  | p :: l, 0, x => by rw [List.set_cons_zero, enc_cons, enc_cons]; rfl
  | p :: l, n + 1, x => by
    rw [List.set_cons_succ, enc_cons, enc_cons, show (n + 1) * 3 = n * 3 + 1 + 1 + 1 by omega]
    simp only [List.set_cons_succ]
    rw [enc_set l n x]

structure Hp (w : World) (base hb mb : Nat) (iv : Value) (its : List Itm) (came : Int) : Prop where
  hat : At w hb [.func (.func 61) #[] #[], iv, .map (some mb), .int .i64 came] 137
  own : w.ownsRow base 139 3 iv its.length (enc its)
  mp : ∃ f, MP w mb f ∧ Fits f its
  lb : hb < base
  lm : mb < base

theorem Hp.drew {w : World} {base hb mb : Nat} {iv : Value} {its : List Itm} {came : Int} (h : Hp w base hb mb iv its came) : Hp w.drew base hb mb iv its came := ⟨h.hat, h.own, h.mp, h.lb, h.lm⟩
theorem Hp.drewN {w : World} {base hb mb : Nat} {iv : Value} {its : List Itm} {came : Int} (h : Hp w base hb mb iv its came) (n : Nat) : Hp (w.drewN n) base hb mb iv its came := ⟨h.hat, h.own, h.mp, h.lb, h.lm⟩
theorem Hp.below {w w' : World} {base hb mb : Nat} {iv : Value} {its : List Itm} {came : Int} (h : Hp w base hb mb iv its came) (hb' : Below w.heap.size w w') : Hp w' base hb mb iv its came := by
  obtain ⟨f, h1, h2⟩ := h.mp
  exact ⟨h.hat.below hb' h.hat.lt, own_move h.own (fun k hk => hb'.block k (h.own.lt k hk).2), ⟨f, h1.below hb' h1.lt, h2⟩, h.lb, h.lm⟩

theorem less_calls (a b : Int) (w : World) : Calls Try.prog 61 #[.int .i64 a, .int .i64 b] w fun e w' => e = .returned (.bool (decide (a < b))) ∧ w' = w := by
  go_enter Try.func61, Try.ntmps61
  go_wp2
  go_ret
  exact ⟨rfl, rfl⟩

end Go.Proofs.Ytdohfjidnbhfnaa.Hp

/- heap.Heap[int, int]: ahead, swap. -/
namespace Go.Proofs.Ytdohfjidnbhfnaa.Hp
open Go Go.RowKit Go.Proofs.Ytdohfjidnbhfnaa.Mem Go.Proofs.Ytdohfjidnbhfnaa.Hq Go.Proofs.YtdohfjidnbhfnaaW.PrintWords Go.Proofs.YtdohfjidnbhfnaaW.PrintLast
attribute [local go_sem ↓] Go.wp_at_zero Go.wp_at_succ
set_option linter.unusedSimpArgs false
set_option linter.unusedVariables false

def tb91_2.T2 : Bool × List (List Nat × List Nat) := (true, [([], []), ([0], [0]), ([1], [1]), ([2], [2]), ([], []), ([4], [4]), ([], []), ([6], [6]), ([3, 5, 7], [3, 5, 7]), ([8, 8], [8])])
def tb91_2.B2 : List Nat := [0, 1, 3, 7, 0, 16, 0, 64, 255, 511]
theorem tb91_2.tab2 : rtab .any (opsOf Try.f91 2) = tb91_2.T2 := by kernel_rfl
theorem tb91_2.bits2 : waitsOk tb91_2.T2.2 tb91_2.B2 = true := by kernel_rfl
def tb91_4.T4 : Bool × List (List Nat × List Nat) := (true, [([], []), ([0], [0]), ([1], [1]), ([2], [2]), ([], []), ([4], [4]), ([], []), ([6], [6]), ([3, 5, 7], [3, 5, 7]), ([8, 8], [8])])
def tb91_4.B4 : List Nat := [0, 1, 3, 7, 0, 16, 0, 64, 255, 511]
theorem tb91_4.tab4 : rtab .any (opsOf Try.f91 4) = tb91_4.T4 := by kernel_rfl
theorem tb91_4.bits4 : waitsOk tb91_4.T4.2 tb91_4.B4 = true := by kernel_rfl
set_option maxHeartbeats 4000000 in
set_option maxRecDepth 100000 in
theorem ahead_calls (w : World) (base hb mb i j : Nat) (iv : Value) (its : List Itm) (came : Int) (a b : Itm) (h : Hp w base hb mb iv its came) (ha : its[i]? = some a) (hbb : its[j]? = some b) (hl : its.length ≤ 1000000) :
    Calls Try.prog 91 #[.pointer (some ⟨hb, 0, none⟩), .int .i64 (i : Int), .int .i64 (j : Int)] w fun e w' => e = .returned (.bool (aheadI a b)) ∧ Below w.heap.size w w' := by
  have hi : i < its.length := (List.getElem?_eq_some_iff.1 ha).1
  have hj : j < its.length := (List.getElem?_eq_some_iff.1 hbb).1
  have i0 : (0 : Int) ≤ (i : Int) := by omega
  have i1 : (i : Int) < (its.length : Int) := by omega
  have j0 : (0 : Int) ≤ (j : Int) := by omega
  have j1 : (j : Int) < (its.length : Int) := by omega
  have hat := h.hat
  obtain ⟨g, cap, rfl, hbg, hglt⟩ := h.own.form (by omega)
  obtain ⟨n, hn⟩ : ∃ n, its.length = n := ⟨_, rfl⟩
  have d0 := hat.cell 0 rfl
  have d1 := hat.cell 1 rfl
  have hblt := hat.lt
  have n1 : hb ≠ w.heap.size := by omega
  have n2 : hb ≠ w.heap.size + 1 := by omega
  have n3 : g ≠ w.heap.size := by omega
  have n4 : g ≠ w.heap.size + 1 := by omega
  have xa := enc_at its i a ha
  have xb := enc_at its j b hbb
  have a0 := (h.own.cellAt (i * 3) (by omega)).trans xa.1
  have a1 := (h.own.cellAt (i * 3 + 1) (by omega)).trans xa.2.1
  have a2 := (h.own.cellAt (i * 3 + 2) (by omega)).trans xa.2.2
  have b0 := (h.own.cellAt (j * 3) (by omega)).trans xb.1
  have b1' := (h.own.cellAt (j * 3 + 1) (by omega)).trans xb.2.1
  have b2' := (h.own.cellAt (j * 3 + 2) (by omega)).trans xb.2.2
  rw [hn] at i1 j1 d1
  have HN := Lib.hid hn
  have HAT := Lib.hid hat
  clear h ha hbb hl hi hj hn xa xb hat
  go_enter Try.func91, Try.ntmps91
  go_upto_region 1 with (fail)
  go_cut [7, 8] (fun v7 v8 wc => ∃ b1 b2 : Nat, v7 = .pointer (some ⟨b1, 0, none⟩) ∧ v8 = .pointer (some ⟨b2, 0, none⟩) ∧ Hid (At wc b1 [.int .i64 a.1, .int .i64 a.2.1, .int .i64 a.2.2] 139 ∧ At wc b2 [.int .i64 b.1, .int .i64 b.2.1, .int .i64 b.2.2] 139 ∧ Below w.heap.size w wc))
  case first =>
    go_region
    all_goals go_wp2_with fail
    all_goals go_meet
    all_goals exact ⟨_, _, rfl, rfl, Lib.hid ⟨by repeat (first | (refine At.made ?_ rfl; simp; done) | refine At.drew ?_ | refine At.al ?_), by repeat (first | (refine At.made ?_ rfl; simp; done) | refine At.drew ?_ | refine At.al ?_), by repeat (first | exact Below.refl _ _ | refine Below.drew ?_ | refine Below.alloc ?_ (by first | (simp; done) | (simp; omega)) _)⟩⟩
  case rest =>
    obtain ⟨b1, b2, rfl, rfl, hc⟩ := hcut
    obtain ⟨h1, h2, h3⟩ := hc.out
    have d0 := (HAT.out.below h3 HAT.out.lt).cell 0 rfl
    have da := h1.cell 1 rfl
    have db := h2.cell 1 rfl
    have da2 := h1.cell 2 rfl
    have db2 := h2.cell 2 rfl
    have HB := Lib.hid h3
    clear hc h1 h2 h3 d1 a0 a1 a2 b0 b1' b2'
    by_cases hab : a.2.1 < b.2.1
    · have e1 : decide (a.2.1 < b.2.1) = true := by simpa using hab
      have hr : aheadI a b = true := by simp [aheadI, hab]
      have HR := Lib.hid hr
      clear hr
      go_wp2
      refine start_ (n := 10) (S := fun w' => w'.cell? ⟨hb, 0, none⟩ = some (.func (.func 61) #[] #[]) ∧ w'.cell? ⟨b1, 1, none⟩ = some (.int .i64 a.2.1) ∧ w'.cell? ⟨b2, 1, none⟩ = some (.int .i64 b.2.1)) (ds := []) (bA 10 0) (by kernel_rfl) rfl rfl ⟨d0, da, db⟩ (fun hHeld => ?_)
      refine with_tabW tb91_2.tab2 tb91_2.bits2 (fun HT_ HW_ => ?_)
      refine pure_ (i := 0) (N := some 24) (v := ?_) (a' := ?_) (bA 10 1) rfl rfl (any_of HT_.out (by kernel_rfl)) (fun _ _ _ h => h) (Or.inl ⟨by rfl, ?_⟩) ?_ ?_
      rotate_left; · intro w'; go_simp; with_reducible rfl
      rotate_left; · simp only [Act.put, pA, pB, pC, pD, pE]; rfl
      refine pure_ (i := 1) (N := some 25) (v := ?_) (a' := ?_) (bA 10 3) rfl rfl (any_of HT_.out (by kernel_rfl)) (fun _ _ _ h => h) (Or.inl ⟨by rfl, ?_⟩) ?_ ?_
      rotate_left; · intro w'; go_simp; with_reducible rfl
      rotate_left; · simp only [Act.put, pA, pB, pC, pD, pE]; rfl
      refine pure_ (i := 2) (N := some 26) (v := ?_) (a' := ?_) (bA 10 7) rfl rfl (any_of HT_.out (by kernel_rfl)) (fun _ _ _ h => h) (Or.inl ⟨by rfl, ?_⟩) ?_ ?_
      rotate_left; · intro w'; go_simp; with_reducible rfl
      rotate_left; · simp only [Act.put, pA, pB, pC, pD, pE]; rfl
      refine pure_ (i := 4) (N := some 28) (v := ?_) (a' := ?_) (bA 10 23) rfl rfl (any_of HT_.out (by kernel_rfl)) (fun _ _ _ h => h) (Or.inl ⟨by rfl, ?_⟩) ?_ ?_
      rotate_left; · intro w'; go_simp; with_reducible rfl
      rotate_left; · simp only [Act.put, pA, pB, pC, pD, pE]; rfl
      refine pure_ (i := 6) (N := some 30) (v := ?_) (a' := ?_) (bA 10 87) rfl rfl (any_of HT_.out (by kernel_rfl)) (fun _ _ _ h => h) (Or.inl ⟨by rfl, ?_⟩) ?_ ?_
      rotate_left; · intro w'; go_simp; with_reducible rfl
      rotate_left; · simp only [Act.put, pA, pB, pC, pD, pE]; rfl
      refine take_ (i := 3) (N := some 27) (v := ?_) (a' := ?_) (bA 10 95) rfl rfl (take_ofW HT_.out HW_.out (by kernel_rfl)) (fun _ _ _ h => h) (Or.inl ⟨by rfl, ?_⟩) hHeld ?_ ?_
      rotate_left
      · rintro w' ⟨s0, s1, s2⟩
        go_simp; with_reducible rfl
      rotate_left; · simp only [Act.put, pA, pB, pC, pD, pE]; rfl
      refine take_ (i := 5) (N := some 29) (v := ?_) (a' := ?_) (bA 10 127) rfl rfl (take_ofW HT_.out HW_.out (by kernel_rfl)) (fun _ _ _ h => h) (Or.inl ⟨by rfl, ?_⟩) hHeld ?_ ?_
      rotate_left
      · rintro w' ⟨s0, s1, s2⟩
        go_simp; with_reducible rfl
      rotate_left; · simp only [Act.put, pA, pB, pC, pD, pE]; rfl
      refine take_ (i := 7) (N := some 31) (v := ?_) (a' := ?_) (bA 10 255) rfl rfl (take_ofW HT_.out HW_.out (by kernel_rfl)) (fun _ _ _ h => h) (Or.inl ⟨by rfl, ?_⟩) hHeld ?_ ?_
      rotate_left
      · rintro w' ⟨s0, s1, s2⟩
        go_simp; with_reducible rfl
      rotate_left; · simp only [Act.put, pA, pB, pC, pD, pE]; rfl
      refine one_ (i := 8) (N := some 32) (bA 10 511) rfl rfl (one_of HT_.out (by kernel_rfl)) (by decide) (fun K hK => ?_)
      refine goesV_ Try.func61 (by kernel_rfl) rfl #[.int .i64 a.2.1, .int .i64 b.2.1] (by rfl) rfl (.tmp 27) (by rfl) rfl (by simp only [List.map_toArray, List.map_cons, List.map_nil]; rfl) ?_
      with_reducible refine (less_calls _ _ _).mono ?_
      rintro e w3 ⟨rfl, rfl⟩
      refine ⟨_, rfl, ?_⟩
      refine hK.out _ _ ⟨d0, da, db⟩ (fun hHeld => ?_)
      clear hK K
      refine norm_ (a' := ?_) ?_ ?_
      rotate_left
      · show Act.put _ (some 32) _ = _
        simp only [Act.put, pA, pB, pC, pD, pE]; rfl
      refine pure_ (i := 9) (N := some 23) (v := ?_) (a' := ?_) (bA 10 1023) rfl rfl (any_of HT_.out (by kernel_rfl)) (fun _ _ _ h => h) (Or.inl ⟨by rfl, ?_⟩) ?_ ?_
      rotate_left; · intro w'; go_simp; with_reducible rfl
      rotate_left; · simp only [Act.put, pA, pB, pC, pD, pE]; rfl
      refine done_ (done_of HT_.out (by kernel_rfl)) ?_
      clear hHeld HT_ HW_
      go_wp2
      go_ret
      exact ⟨by rw [HR.out]; rfl, HB.out.drew⟩
    · have e1 : decide (a.2.1 < b.2.1) = false := by simpa using hab
      by_cases hba : b.2.1 < a.2.1
      · have e2 : decide (b.2.1 < a.2.1) = true := by simpa using hba
        have hr : aheadI a b = false := by simp [aheadI, hab, hba]
        have HR := Lib.hid hr
        clear hr
        go_wp2
        refine start_ (n := 10) (S := fun w' => w'.cell? ⟨hb, 0, none⟩ = some (.func (.func 61) #[] #[]) ∧ w'.cell? ⟨b1, 1, none⟩ = some (.int .i64 a.2.1) ∧ w'.cell? ⟨b2, 1, none⟩ = some (.int .i64 b.2.1)) (ds := []) (bA 10 0) (by kernel_rfl) rfl rfl ⟨d0, da, db⟩ (fun hHeld => ?_)
        refine with_tabW tb91_2.tab2 tb91_2.bits2 (fun HT_ HW_ => ?_)
        refine pure_ (i := 0) (N := some 24) (v := ?_) (a' := ?_) (bA 10 1) rfl rfl (any_of HT_.out (by kernel_rfl)) (fun _ _ _ h => h) (Or.inl ⟨by rfl, ?_⟩) ?_ ?_
        rotate_left; · intro w'; go_simp; with_reducible rfl
        rotate_left; · simp only [Act.put, pA, pB, pC, pD, pE]; rfl
        refine pure_ (i := 1) (N := some 25) (v := ?_) (a' := ?_) (bA 10 3) rfl rfl (any_of HT_.out (by kernel_rfl)) (fun _ _ _ h => h) (Or.inl ⟨by rfl, ?_⟩) ?_ ?_
        rotate_left; · intro w'; go_simp; with_reducible rfl
        rotate_left; · simp only [Act.put, pA, pB, pC, pD, pE]; rfl
        refine pure_ (i := 2) (N := some 26) (v := ?_) (a' := ?_) (bA 10 7) rfl rfl (any_of HT_.out (by kernel_rfl)) (fun _ _ _ h => h) (Or.inl ⟨by rfl, ?_⟩) ?_ ?_
        rotate_left; · intro w'; go_simp; with_reducible rfl
        rotate_left; · simp only [Act.put, pA, pB, pC, pD, pE]; rfl
        refine pure_ (i := 4) (N := some 28) (v := ?_) (a' := ?_) (bA 10 23) rfl rfl (any_of HT_.out (by kernel_rfl)) (fun _ _ _ h => h) (Or.inl ⟨by rfl, ?_⟩) ?_ ?_
        rotate_left; · intro w'; go_simp; with_reducible rfl
        rotate_left; · simp only [Act.put, pA, pB, pC, pD, pE]; rfl
        refine pure_ (i := 6) (N := some 30) (v := ?_) (a' := ?_) (bA 10 87) rfl rfl (any_of HT_.out (by kernel_rfl)) (fun _ _ _ h => h) (Or.inl ⟨by rfl, ?_⟩) ?_ ?_
        rotate_left; · intro w'; go_simp; with_reducible rfl
        rotate_left; · simp only [Act.put, pA, pB, pC, pD, pE]; rfl
        refine take_ (i := 3) (N := some 27) (v := ?_) (a' := ?_) (bA 10 95) rfl rfl (take_ofW HT_.out HW_.out (by kernel_rfl)) (fun _ _ _ h => h) (Or.inl ⟨by rfl, ?_⟩) hHeld ?_ ?_
        rotate_left
        · rintro w' ⟨s0, s1, s2⟩
          go_simp; with_reducible rfl
        rotate_left; · simp only [Act.put, pA, pB, pC, pD, pE]; rfl
        refine take_ (i := 5) (N := some 29) (v := ?_) (a' := ?_) (bA 10 127) rfl rfl (take_ofW HT_.out HW_.out (by kernel_rfl)) (fun _ _ _ h => h) (Or.inl ⟨by rfl, ?_⟩) hHeld ?_ ?_
        rotate_left
        · rintro w' ⟨s0, s1, s2⟩
          go_simp; with_reducible rfl
        rotate_left; · simp only [Act.put, pA, pB, pC, pD, pE]; rfl
        refine take_ (i := 7) (N := some 31) (v := ?_) (a' := ?_) (bA 10 255) rfl rfl (take_ofW HT_.out HW_.out (by kernel_rfl)) (fun _ _ _ h => h) (Or.inl ⟨by rfl, ?_⟩) hHeld ?_ ?_
        rotate_left
        · rintro w' ⟨s0, s1, s2⟩
          go_simp; with_reducible rfl
        rotate_left; · simp only [Act.put, pA, pB, pC, pD, pE]; rfl
        refine one_ (i := 8) (N := some 32) (bA 10 511) rfl rfl (one_of HT_.out (by kernel_rfl)) (by decide) (fun K hK => ?_)
        refine goesV_ Try.func61 (by kernel_rfl) rfl #[.int .i64 a.2.1, .int .i64 b.2.1] (by rfl) rfl (.tmp 27) (by rfl) rfl (by simp only [List.map_toArray, List.map_cons, List.map_nil]; rfl) ?_
        with_reducible refine (less_calls _ _ _).mono ?_
        rintro e w3 ⟨rfl, rfl⟩
        refine ⟨_, rfl, ?_⟩
        refine hK.out _ _ ⟨d0, da, db⟩ (fun hHeld => ?_)
        clear hK K
        refine norm_ (a' := ?_) ?_ ?_
        rotate_left
        · show Act.put _ (some 32) _ = _
          simp only [Act.put, pA, pB, pC, pD, pE]; rfl
        refine pure_ (i := 9) (N := some 23) (v := ?_) (a' := ?_) (bA 10 1023) rfl rfl (any_of HT_.out (by kernel_rfl)) (fun _ _ _ h => h) (Or.inl ⟨by rfl, ?_⟩) ?_ ?_
        rotate_left; · intro w'; go_simp; with_reducible rfl
        rotate_left; · simp only [Act.put, pA, pB, pC, pD, pE]; rfl
        refine done_ (done_of HT_.out (by kernel_rfl)) ?_
        clear hHeld HT_ HW_
        go_wp2
        refine start_ (n := 10) (S := fun w' => w'.cell? ⟨hb, 0, none⟩ = some (.func (.func 61) #[] #[]) ∧ w'.cell? ⟨b2, 1, none⟩ = some (.int .i64 b.2.1) ∧ w'.cell? ⟨b1, 1, none⟩ = some (.int .i64 a.2.1)) (ds := []) (bA 10 0) (by kernel_rfl) rfl rfl ⟨d0, db, da⟩ (fun hHeld => ?_)
        refine with_tabW tb91_4.tab4 tb91_4.bits4 (fun HT_ HW_ => ?_)
        refine pure_ (i := 0) (N := some 34) (v := ?_) (a' := ?_) (bA 10 1) rfl rfl (any_of HT_.out (by kernel_rfl)) (fun _ _ _ h => h) (Or.inl ⟨by rfl, ?_⟩) ?_ ?_
        rotate_left; · intro w'; go_simp; with_reducible rfl
        rotate_left; · simp only [Act.put, pA, pB, pC, pD, pE]; rfl
        refine pure_ (i := 1) (N := some 35) (v := ?_) (a' := ?_) (bA 10 3) rfl rfl (any_of HT_.out (by kernel_rfl)) (fun _ _ _ h => h) (Or.inl ⟨by rfl, ?_⟩) ?_ ?_
        rotate_left; · intro w'; go_simp; with_reducible rfl
        rotate_left; · simp only [Act.put, pA, pB, pC, pD, pE]; rfl
        refine pure_ (i := 2) (N := some 36) (v := ?_) (a' := ?_) (bA 10 7) rfl rfl (any_of HT_.out (by kernel_rfl)) (fun _ _ _ h => h) (Or.inl ⟨by rfl, ?_⟩) ?_ ?_
        rotate_left; · intro w'; go_simp; with_reducible rfl
        rotate_left; · simp only [Act.put, pA, pB, pC, pD, pE]; rfl
        refine pure_ (i := 4) (N := some 38) (v := ?_) (a' := ?_) (bA 10 23) rfl rfl (any_of HT_.out (by kernel_rfl)) (fun _ _ _ h => h) (Or.inl ⟨by rfl, ?_⟩) ?_ ?_
        rotate_left; · intro w'; go_simp; with_reducible rfl
        rotate_left; · simp only [Act.put, pA, pB, pC, pD, pE]; rfl
        refine pure_ (i := 6) (N := some 40) (v := ?_) (a' := ?_) (bA 10 87) rfl rfl (any_of HT_.out (by kernel_rfl)) (fun _ _ _ h => h) (Or.inl ⟨by rfl, ?_⟩) ?_ ?_
        rotate_left; · intro w'; go_simp; with_reducible rfl
        rotate_left; · simp only [Act.put, pA, pB, pC, pD, pE]; rfl
        refine take_ (i := 3) (N := some 37) (v := ?_) (a' := ?_) (bA 10 95) rfl rfl (take_ofW HT_.out HW_.out (by kernel_rfl)) (fun _ _ _ h => h) (Or.inl ⟨by rfl, ?_⟩) hHeld ?_ ?_
        rotate_left
        · rintro w' ⟨s0, s1, s2⟩
          go_simp; with_reducible rfl
        rotate_left; · simp only [Act.put, pA, pB, pC, pD, pE]; rfl
        refine take_ (i := 5) (N := some 39) (v := ?_) (a' := ?_) (bA 10 127) rfl rfl (take_ofW HT_.out HW_.out (by kernel_rfl)) (fun _ _ _ h => h) (Or.inl ⟨by rfl, ?_⟩) hHeld ?_ ?_
        rotate_left
        · rintro w' ⟨s0, s1, s2⟩
          go_simp; with_reducible rfl
        rotate_left; · simp only [Act.put, pA, pB, pC, pD, pE]; rfl
        refine take_ (i := 7) (N := some 41) (v := ?_) (a' := ?_) (bA 10 255) rfl rfl (take_ofW HT_.out HW_.out (by kernel_rfl)) (fun _ _ _ h => h) (Or.inl ⟨by rfl, ?_⟩) hHeld ?_ ?_
        rotate_left
        · rintro w' ⟨s0, s1, s2⟩
          go_simp; with_reducible rfl
        rotate_left; · simp only [Act.put, pA, pB, pC, pD, pE]; rfl
        refine one_ (i := 8) (N := some 42) (bA 10 511) rfl rfl (one_of HT_.out (by kernel_rfl)) (by decide) (fun K hK => ?_)
        refine goesV_ Try.func61 (by kernel_rfl) rfl #[.int .i64 b.2.1, .int .i64 a.2.1] (by rfl) rfl (.tmp 37) (by rfl) rfl (by simp only [List.map_toArray, List.map_cons, List.map_nil]; rfl) ?_
        with_reducible refine (less_calls _ _ _).mono ?_
        rintro e w3 ⟨rfl, rfl⟩
        refine ⟨_, rfl, ?_⟩
        refine hK.out _ _ ⟨d0, db, da⟩ (fun hHeld => ?_)
        clear hK K
        refine norm_ (a' := ?_) ?_ ?_
        rotate_left
        · show Act.put _ (some 42) _ = _
          simp only [Act.put, pA, pB, pC, pD, pE]; rfl
        refine pure_ (i := 9) (N := some 33) (v := ?_) (a' := ?_) (bA 10 1023) rfl rfl (any_of HT_.out (by kernel_rfl)) (fun _ _ _ h => h) (Or.inl ⟨by rfl, ?_⟩) ?_ ?_
        rotate_left; · intro w'; go_simp; with_reducible rfl
        rotate_left; · simp only [Act.put, pA, pB, pC, pD, pE]; rfl
        refine done_ (done_of HT_.out (by kernel_rfl)) ?_
        clear hHeld HT_ HW_
        go_wp2
        go_ret
        exact ⟨by rw [HR.out]; rfl, HB.out.drew.drew⟩
      · have e2 : decide (b.2.1 < a.2.1) = false := by simpa using hba
        have hr : aheadI a b = decide (a.2.2 < b.2.2) := by simp [aheadI, hab, hba]
        have HR := Lib.hid hr
        clear hr
        go_wp2
        refine start_ (n := 10) (S := fun w' => w'.cell? ⟨hb, 0, none⟩ = some (.func (.func 61) #[] #[]) ∧ w'.cell? ⟨b1, 1, none⟩ = some (.int .i64 a.2.1) ∧ w'.cell? ⟨b2, 1, none⟩ = some (.int .i64 b.2.1)) (ds := []) (bA 10 0) (by kernel_rfl) rfl rfl ⟨d0, da, db⟩ (fun hHeld => ?_)
        refine with_tabW tb91_2.tab2 tb91_2.bits2 (fun HT_ HW_ => ?_)
        refine pure_ (i := 0) (N := some 24) (v := ?_) (a' := ?_) (bA 10 1) rfl rfl (any_of HT_.out (by kernel_rfl)) (fun _ _ _ h => h) (Or.inl ⟨by rfl, ?_⟩) ?_ ?_
        rotate_left; · intro w'; go_simp; with_reducible rfl
        rotate_left; · simp only [Act.put, pA, pB, pC, pD, pE]; rfl
        refine pure_ (i := 1) (N := some 25) (v := ?_) (a' := ?_) (bA 10 3) rfl rfl (any_of HT_.out (by kernel_rfl)) (fun _ _ _ h => h) (Or.inl ⟨by rfl, ?_⟩) ?_ ?_
        rotate_left; · intro w'; go_simp; with_reducible rfl
        rotate_left; · simp only [Act.put, pA, pB, pC, pD, pE]; rfl
        refine pure_ (i := 2) (N := some 26) (v := ?_) (a' := ?_) (bA 10 7) rfl rfl (any_of HT_.out (by kernel_rfl)) (fun _ _ _ h => h) (Or.inl ⟨by rfl, ?_⟩) ?_ ?_
        rotate_left; · intro w'; go_simp; with_reducible rfl
        rotate_left; · simp only [Act.put, pA, pB, pC, pD, pE]; rfl
        refine pure_ (i := 4) (N := some 28) (v := ?_) (a' := ?_) (bA 10 23) rfl rfl (any_of HT_.out (by kernel_rfl)) (fun _ _ _ h => h) (Or.inl ⟨by rfl, ?_⟩) ?_ ?_
        rotate_left; · intro w'; go_simp; with_reducible rfl
        rotate_left; · simp only [Act.put, pA, pB, pC, pD, pE]; rfl
        refine pure_ (i := 6) (N := some 30) (v := ?_) (a' := ?_) (bA 10 87) rfl rfl (any_of HT_.out (by kernel_rfl)) (fun _ _ _ h => h) (Or.inl ⟨by rfl, ?_⟩) ?_ ?_
        rotate_left; · intro w'; go_simp; with_reducible rfl
        rotate_left; · simp only [Act.put, pA, pB, pC, pD, pE]; rfl
        refine take_ (i := 3) (N := some 27) (v := ?_) (a' := ?_) (bA 10 95) rfl rfl (take_ofW HT_.out HW_.out (by kernel_rfl)) (fun _ _ _ h => h) (Or.inl ⟨by rfl, ?_⟩) hHeld ?_ ?_
        rotate_left
        · rintro w' ⟨s0, s1, s2⟩
          go_simp; with_reducible rfl
        rotate_left; · simp only [Act.put, pA, pB, pC, pD, pE]; rfl
        refine take_ (i := 5) (N := some 29) (v := ?_) (a' := ?_) (bA 10 127) rfl rfl (take_ofW HT_.out HW_.out (by kernel_rfl)) (fun _ _ _ h => h) (Or.inl ⟨by rfl, ?_⟩) hHeld ?_ ?_
        rotate_left
        · rintro w' ⟨s0, s1, s2⟩
          go_simp; with_reducible rfl
        rotate_left; · simp only [Act.put, pA, pB, pC, pD, pE]; rfl
        refine take_ (i := 7) (N := some 31) (v := ?_) (a' := ?_) (bA 10 255) rfl rfl (take_ofW HT_.out HW_.out (by kernel_rfl)) (fun _ _ _ h => h) (Or.inl ⟨by rfl, ?_⟩) hHeld ?_ ?_
        rotate_left
        · rintro w' ⟨s0, s1, s2⟩
          go_simp; with_reducible rfl
        rotate_left; · simp only [Act.put, pA, pB, pC, pD, pE]; rfl
        refine one_ (i := 8) (N := some 32) (bA 10 511) rfl rfl (one_of HT_.out (by kernel_rfl)) (by decide) (fun K hK => ?_)
        refine goesV_ Try.func61 (by kernel_rfl) rfl #[.int .i64 a.2.1, .int .i64 b.2.1] (by rfl) rfl (.tmp 27) (by rfl) rfl (by simp only [List.map_toArray, List.map_cons, List.map_nil]; rfl) ?_
        with_reducible refine (less_calls _ _ _).mono ?_
        rintro e w3 ⟨rfl, rfl⟩
        refine ⟨_, rfl, ?_⟩
        refine hK.out _ _ ⟨d0, da, db⟩ (fun hHeld => ?_)
        clear hK K
        refine norm_ (a' := ?_) ?_ ?_
        rotate_left
        · show Act.put _ (some 32) _ = _
          simp only [Act.put, pA, pB, pC, pD, pE]; rfl
        refine pure_ (i := 9) (N := some 23) (v := ?_) (a' := ?_) (bA 10 1023) rfl rfl (any_of HT_.out (by kernel_rfl)) (fun _ _ _ h => h) (Or.inl ⟨by rfl, ?_⟩) ?_ ?_
        rotate_left; · intro w'; go_simp; with_reducible rfl
        rotate_left; · simp only [Act.put, pA, pB, pC, pD, pE]; rfl
        refine done_ (done_of HT_.out (by kernel_rfl)) ?_
        clear hHeld HT_ HW_
        go_wp2
        refine start_ (n := 10) (S := fun w' => w'.cell? ⟨hb, 0, none⟩ = some (.func (.func 61) #[] #[]) ∧ w'.cell? ⟨b2, 1, none⟩ = some (.int .i64 b.2.1) ∧ w'.cell? ⟨b1, 1, none⟩ = some (.int .i64 a.2.1)) (ds := []) (bA 10 0) (by kernel_rfl) rfl rfl ⟨d0, db, da⟩ (fun hHeld => ?_)
        refine with_tabW tb91_4.tab4 tb91_4.bits4 (fun HT_ HW_ => ?_)
        refine pure_ (i := 0) (N := some 34) (v := ?_) (a' := ?_) (bA 10 1) rfl rfl (any_of HT_.out (by kernel_rfl)) (fun _ _ _ h => h) (Or.inl ⟨by rfl, ?_⟩) ?_ ?_
        rotate_left; · intro w'; go_simp; with_reducible rfl
        rotate_left; · simp only [Act.put, pA, pB, pC, pD, pE]; rfl
        refine pure_ (i := 1) (N := some 35) (v := ?_) (a' := ?_) (bA 10 3) rfl rfl (any_of HT_.out (by kernel_rfl)) (fun _ _ _ h => h) (Or.inl ⟨by rfl, ?_⟩) ?_ ?_
        rotate_left; · intro w'; go_simp; with_reducible rfl
        rotate_left; · simp only [Act.put, pA, pB, pC, pD, pE]; rfl
        refine pure_ (i := 2) (N := some 36) (v := ?_) (a' := ?_) (bA 10 7) rfl rfl (any_of HT_.out (by kernel_rfl)) (fun _ _ _ h => h) (Or.inl ⟨by rfl, ?_⟩) ?_ ?_
        rotate_left; · intro w'; go_simp; with_reducible rfl
        rotate_left; · simp only [Act.put, pA, pB, pC, pD, pE]; rfl
        refine pure_ (i := 4) (N := some 38) (v := ?_) (a' := ?_) (bA 10 23) rfl rfl (any_of HT_.out (by kernel_rfl)) (fun _ _ _ h => h) (Or.inl ⟨by rfl, ?_⟩) ?_ ?_
        rotate_left; · intro w'; go_simp; with_reducible rfl
        rotate_left; · simp only [Act.put, pA, pB, pC, pD, pE]; rfl
        refine pure_ (i := 6) (N := some 40) (v := ?_) (a' := ?_) (bA 10 87) rfl rfl (any_of HT_.out (by kernel_rfl)) (fun _ _ _ h => h) (Or.inl ⟨by rfl, ?_⟩) ?_ ?_
        rotate_left; · intro w'; go_simp; with_reducible rfl
        rotate_left; · simp only [Act.put, pA, pB, pC, pD, pE]; rfl
        refine take_ (i := 3) (N := some 37) (v := ?_) (a' := ?_) (bA 10 95) rfl rfl (take_ofW HT_.out HW_.out (by kernel_rfl)) (fun _ _ _ h => h) (Or.inl ⟨by rfl, ?_⟩) hHeld ?_ ?_
        rotate_left
        · rintro w' ⟨s0, s1, s2⟩
          go_simp; with_reducible rfl
        rotate_left; · simp only [Act.put, pA, pB, pC, pD, pE]; rfl
        refine take_ (i := 5) (N := some 39) (v := ?_) (a' := ?_) (bA 10 127) rfl rfl (take_ofW HT_.out HW_.out (by kernel_rfl)) (fun _ _ _ h => h) (Or.inl ⟨by rfl, ?_⟩) hHeld ?_ ?_
        rotate_left
        · rintro w' ⟨s0, s1, s2⟩
          go_simp; with_reducible rfl
        rotate_left; · simp only [Act.put, pA, pB, pC, pD, pE]; rfl
        refine take_ (i := 7) (N := some 41) (v := ?_) (a' := ?_) (bA 10 255) rfl rfl (take_ofW HT_.out HW_.out (by kernel_rfl)) (fun _ _ _ h => h) (Or.inl ⟨by rfl, ?_⟩) hHeld ?_ ?_
        rotate_left
        · rintro w' ⟨s0, s1, s2⟩
          go_simp; with_reducible rfl
        rotate_left; · simp only [Act.put, pA, pB, pC, pD, pE]; rfl
        refine one_ (i := 8) (N := some 42) (bA 10 511) rfl rfl (one_of HT_.out (by kernel_rfl)) (by decide) (fun K hK => ?_)
        refine goesV_ Try.func61 (by kernel_rfl) rfl #[.int .i64 b.2.1, .int .i64 a.2.1] (by rfl) rfl (.tmp 37) (by rfl) rfl (by simp only [List.map_toArray, List.map_cons, List.map_nil]; rfl) ?_
        with_reducible refine (less_calls _ _ _).mono ?_
        rintro e w3 ⟨rfl, rfl⟩
        refine ⟨_, rfl, ?_⟩
        refine hK.out _ _ ⟨d0, db, da⟩ (fun hHeld => ?_)
        clear hK K
        refine norm_ (a' := ?_) ?_ ?_
        rotate_left
        · show Act.put _ (some 42) _ = _
          simp only [Act.put, pA, pB, pC, pD, pE]; rfl
        refine pure_ (i := 9) (N := some 33) (v := ?_) (a' := ?_) (bA 10 1023) rfl rfl (any_of HT_.out (by kernel_rfl)) (fun _ _ _ h => h) (Or.inl ⟨by rfl, ?_⟩) ?_ ?_
        rotate_left; · intro w'; go_simp; with_reducible rfl
        rotate_left; · simp only [Act.put, pA, pB, pC, pD, pE]; rfl
        refine done_ (done_of HT_.out (by kernel_rfl)) ?_
        clear hHeld HT_ HW_
        go_wp2
        go_ret
        exact ⟨by rw [HR.out]; rfl, HB.out.drew.drew⟩

end Go.Proofs.Ytdohfjidnbhfnaa.Hp
