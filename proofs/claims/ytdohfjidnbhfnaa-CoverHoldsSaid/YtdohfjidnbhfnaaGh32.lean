/- The references' Closure, walked. -/
import Derived.Test.YtdohfjidnbhfnaaGh31
import Derived.Test.YtdohfjidnbhfnaaGh28
namespace Go.Proofs.Ytdohfjidnbhfnaa.Lw
open Go Go.RowKit Go.Proofs.Ytdohfjidnbhfnaa.Mem Go.Proofs.Ytdohfjidnbhfnaa.Sl Go.Proofs.Ytdohfjidnbhfnaa.Scc Go.Proofs.Ytdohfjidnbhfnaa.Tj Go.Proofs.YtdohfjidnbhfnaaW.PrintWords Go.Proofs.YtdohfjidnbhfnaaW.PrintLast
attribute [local go_sem ↓] Go.wp_at_zero Go.wp_at_succ
set_option linter.unusedSimpArgs false
set_option linter.unusedVariables false

theorem info_bools : (Try.prog.info? 79).map (fun i => (i.zero, i.size, i.bytes)) = some (some (.slice none 0 0), 1, 24) := by kernel_rfl

open Classical in
noncomputable def rB (E : Nat → Nat → Prop) (i x : Nat) : Bool := decide (Rch E i x)
theorem rB_iff {E : Nat → Nat → Prop} {i x : Nat} : rB E i x = true ↔ Rch E i x := by
  unfold rB
  exact @decide_eq_true_iff _ (Classical.propDecidable _)
noncomputable def rowB (E : Nat → Nat → Prop) (n i : Nat) : List Bool := (List.range n).map (rB E i)
theorem rowB_length (E : Nat → Nat → Prop) (n i : Nat) : (rowB E n i).length = n := by simp [rowB]
theorem rowB_eq {E : Nat → Nat → Prop} {n i : Nat} {rb : List Bool} (hl : rb.length = n) (h : ∀ x : Nat, rb[x]? = some true ↔ Rch E i x) : rb = rowB E n i := by
  refine List.ext_getElem (by rw [hl, rowB_length]) fun x h1 h2 => ?_
  have e : (rowB E n i)[x] = rB E i x := by simp [rowB]
  rw [e, Bool.eq_iff_iff, rB_iff, ← h x, List.getElem?_eq_getElem h1]
  simp
theorem rowB_at {E : Nat → Nat → Prop} {n i x : Nat} (h : x < n) : (rowB E n i)[x]? = some (rB E i x) := by
  unfold rowB
  rw [List.getElem?_map, List.getElem?_range h]
  rfl

def RdC (w : World) (A : Option Addr) (n : Nat) (E : Nat → Nat → Prop) : Prop := ∀ i, i < n → ∃ b B cB, A = some ⟨b, 0, none⟩ ∧ w.cell? ⟨b, i, none⟩ = some (.slice (some ⟨B, 0, none⟩) n cB) ∧ ∀ x, x < n → w.cell? ⟨B, x, none⟩ = some (.bool (rB E i x))
theorem RdC.below {w w' : World} {A : Option Addr} {n : Nat} {E : Nat → Nat → Prop} (h : RdC w A n E) (hb : Below w.heap.size w w') : RdC w' A n E := fun i hi => by
  obtain ⟨b, B, cB, h1, h2, h3⟩ := h i hi
  exact ⟨b, B, cB, h1, keep_at hb h2, fun x hx => keep_at hb (h3 x hx)⟩

def CSt (w : World) (n i : Nat) (E : Nat → Nat → Prop) (v : Value) (W : World) : Prop :=
  ∃ vals, One w 79 1 v i vals W ∧ ∀ (j : Nat) (u : Value), vals[j]? = some u → W.ownsRow w.heap.size 4 1 u n (bls (rowB E n j))

def tb33_5.T5 : Bool × List (List Nat × List Nat) := (true, [([], []), ([], []), ([], []), ([2], [2]), ([], []), ([3, 4], [3, 4]), ([5], [5]), ([1, 6], [1, 6]), ([7], [7]), ([0, 8, 7], [0, 8]), ([9, 9, 0, 1, 2, 3, 4, 5, 6, 7, 8, 9], [0, 9])])
def tb33_5.B5 : List Nat := [0, 0, 0, 4, 0, 28, 60, 126, 254, 511, 1023]
theorem tb33_5.tab5 : rtab .any (opsOf Try.f33 5) = tb33_5.T5 := by kernel_rfl
theorem tb33_5.bits5 : waitsOk tb33_5.T5.2 tb33_5.B5 = true := by kernel_rfl
theorem closure_step {w wr wa w3 : World} {n i : Nat} {E : Nat → Nat → Prop} {v v3 : Value} {vals : List Value} {AB : Option Addr} {cB : Nat} {rb : List Bool}
    (hO : One w 79 1 v i vals wr) (hR : ∀ (j : Nat) (u : Value), vals[j]? = some u → wr.ownsRow w.heap.size 4 1 u n (bls (rowB E n j))) (hba : Below wr.heap.size wr wa)
    (ho1 : One wr.drew 4 1 (.slice AB n cB) n (bls rb) wa) (hrl : rb.length = n) (hall : ∀ x : Nat, rb[x]? = some true ↔ Rch E i x)
    (hg : (wa.alloc (.cells #[.slice AB n cB] 79)).grownBy w3 v.ownBlock) (hone3 : One w 79 1 v3 (i + 1) (vals ++ [.slice AB n cB]) w3) : CSt w n (i + 1) E v3 w3 := by
  have hvl : vals.length = i := by have := hO.r.1; omega
  have hown := (own_below hO.r hba).alloc (.cells #[.slice AB n cB] 79)
  refine ⟨_, hone3, fun j u hu => ?_⟩
  rcases Nat.lt_or_ge j vals.length with hj | hj
  · rw [List.getElem?_append_left hj] at hu
    have h1 := (own_below (hR j u hu) hba).alloc (.cells #[.slice AB n cB] 79)
    exact h1.kept hg (own_types h1 hown (by decide))
  · have hj0 : j = i := by
      have := (List.getElem?_eq_some_iff.1 hu).1
      simp at this
      omega
    subst hj0
    rw [List.getElem?_append_right hj, hvl, Nat.sub_self] at hu
    cases hu
    rw [← rowB_eq hrl hall]
    have h1 := (own_mono (B' := w.heap.size) ho1.r hO.b.size).alloc (.cells #[.slice AB n cB] 79)
    exact h1.kept hg (own_types h1 hown (by decide))

set_option maxHeartbeats 8000000 in
set_option maxRecDepth 100000 in
theorem closure_calls (w : World) (A AE : Option Addr) (cg ce : Nat) (sl : List Int) (R : List (Int × Int)) (hv : RdI w A sl) (he : RdE w AE R) (hs : sl.Pairwise (· < ·)) (hgood : good sl R = true) (hl : sl.length ≤ 1000) (hr : R.length ≤ 100000) :
    Calls Try.prog 33 #[gV A sl.length cg (.slice AE R.length ce)] w fun e w' => ∃ A' c', e = .returned (.slice A' sl.length c') ∧ RdC w' A' sl.length (PE sl R) ∧ Below w.heap.size w w' := by
  obtain ⟨i5, hi5, hz5, hs5, hy5⟩ := info_parts info_bools
  obtain ⟨n, hn⟩ : ∃ n, sl.length = n := ⟨_, rfl⟩
  rw [hn] at hl ⊢
  have HV := Lib.hid hv
  have HE := Lib.hid he
  have HS := Lib.hid hs
  have HGD := Lib.hid hgood
  have HN := Lib.hid hn
  clear hv he hs hgood hn
  unfold gV
  go_enter Try.func33, Try.ntmps33
  go_wp2_with fail
  refine gen_loopw (fun W => At W w.heap.size [.slice A n cg, .slice AE R.length ce, .int .i64 0, .int .i64 0] 27 ∧ Below w.heap.size w W) ?_ ?_
  · exact ⟨At.made rfl rfl, (Below.refl _ _).alloc (Nat.le_refl _) _⟩
  obtain ⟨gx, hgx⟩ : ∃ gx, w.heap.size = gx := ⟨_, rfl⟩
  rw [hgx]
  have HGX := Lib.hid hgx
  rintro w3 ⟨hat, hb⟩
  rw [← hgx] at hb
  have HAT := Lib.hid hat
  have HB := Lib.hid hb
  clear hat hb hgx
  go_loopg [3, 4] n (fun kq v3 v4 w' => ∃ i : Nat, v4 = .int .i64 (i : Int) ∧ Hid (i + kq = n ∧ At w' gx [.slice A n cg, .slice AE R.length ce, .int .i64 0, .int .i64 0] 27 ∧ CSt w n i (PE sl R) v3 w'))
  case atStart => exact ⟨0, rfl, Lib.hid ⟨by omega, HAT.out, [], One.startAt HB.out, fun j u h => by simp at h⟩⟩
  case round =>
    clear HAT HB
    obtain ⟨i, rfl, hI⟩ := hrel
    obtain ⟨hik, hat, vals, hO, hR⟩ := hI.out
    clear hI
    have q0 := hat.cell 0 rfl
    by_cases hi : i < n
    · obtain ⟨k1, rfl⟩ : ∃ k1, gk = k1 + 1 := ⟨gk - 1, by omega⟩
      obtain ⟨s, hsx⟩ : ∃ s, sl[i]? = some s := ⟨_, List.getElem?_eq_getElem (by have := HN.out; omega)⟩
      obtain ⟨b, rfl, qs⟩ := (HV.out.below hO.b) i s hsx
      have q1 := hat.cell 1 rfl
      have q2 := hat.cell 2 rfl
      have q3 := hat.cell 3 rfl
      have hba : Below wr.heap.size wr wr.drew := (Below.refl _ _).drew
      have hC := reached_calls wr.drew (some ⟨b, 0, none⟩) AE cg ce i sl R s ((HV.out.below hO.b).below hba) ((HE.out.below hO.b).below hba) HS.out HGD.out hsx (by have := HN.out; omega) hr
      rw [HN.out] at hC
      unfold gV at hC
      have HCR := Lib.hid hC
      have HO := Lib.hid hO
      have HRS := Lib.hid hR
      have HAT := Lib.hid hat
      have HIK := Lib.hid hik
      have j0 : (0 : Int) ≤ (i : Int) := by omega
      have j1 : (i : Int) < (n : Int) := by omega
      have j2 : (n : Int) ≤ 1000 := by omega
      clear hC hO hR hat hik hsx hba hi
      go_upto_region 5 with (fail)
      refine start_ (n := 11) (S := fun w' => w'.cell? ⟨gx, 0, none⟩ = some (.slice (some ⟨b, 0, none⟩) n cg) ∧ w'.cell? ⟨gx, 1, none⟩ = some (.slice AE R.length ce) ∧ w'.cell? ⟨gx, 2, none⟩ = some (.int .i64 0) ∧ w'.cell? ⟨gx, 3, none⟩ = some (.int .i64 0) ∧ w'.cell? ⟨b, i, none⟩ = some (.int .i64 s)) (ds := [9]) #[false, false, false, false, false, false, false, false, false, false, false] (by kernel_rfl) rfl rfl ⟨q0, q1, q2, q3, qs⟩ (fun hHeld => ?_)
      refine with_tabW tb33_5.tab5 tb33_5.bits5 (fun HT_ HW_ => ?_)
      refine pure_ (i := 0) (N := some 12) (v := ?_) (a' := ?_) #[true, false, false, false, false, false, false, false, false, false, false] rfl rfl (any_of HT_.out (by kernel_rfl)) (fun _ _ _ h => h) (Or.inl ⟨by rfl, ?_⟩) ?_ ?_
      rotate_left; · intro w'; go_simp; with_reducible rfl
      rotate_left; · simp only [Act.put, List.setIfInBounds_toArray, List.set_cons_zero, List.set_cons_succ, i64_w, i32_w]; rfl
      refine pure_ (i := 2) (N := some 14) (v := ?_) (a' := ?_) #[true, false, true, false, false, false, false, false, false, false, false] rfl rfl (any_of HT_.out (by kernel_rfl)) (fun _ _ _ h => h) (Or.inl ⟨by rfl, ?_⟩) ?_ ?_
      rotate_left; · intro w'; go_simp; with_reducible rfl
      rotate_left; · simp only [Act.put, List.setIfInBounds_toArray, List.set_cons_zero, List.set_cons_succ, i64_w, i32_w]; rfl
      refine pure_ (i := 4) (N := some 16) (v := ?_) (a' := ?_) #[true, false, true, false, true, false, false, false, false, false, false] rfl rfl (any_of HT_.out (by kernel_rfl)) (fun _ _ _ h => h) (Or.inl ⟨by rfl, ?_⟩) ?_ ?_
      rotate_left; · intro w'; go_simp; with_reducible rfl
      rotate_left; · simp only [Act.put, List.setIfInBounds_toArray, List.set_cons_zero, List.set_cons_succ, i64_w, i32_w]; rfl
      refine take_ (i := 1) (N := some 13) (v := ?_) (a' := ?_) #[true, true, true, false, true, false, false, false, false, false, false] rfl rfl (take_ofW HT_.out HW_.out (by kernel_rfl)) (fun _ _ _ h => h) (Or.inl ⟨by rfl, ?_⟩) hHeld ?_ ?_
      rotate_left
      · rintro w' ⟨s0, s1, s2, s3, s4⟩
        go_simp; with_reducible rfl
      rotate_left; · simp only [Act.put, List.setIfInBounds_toArray, List.set_cons_zero, List.set_cons_succ, i64_w, i32_w]; rfl
      refine take_ (i := 3) (N := some 15) (v := ?_) (a' := ?_) #[true, true, true, true, true, false, false, false, false, false, false] rfl rfl (take_ofW HT_.out HW_.out (by kernel_rfl)) (fun _ _ _ h => h) (Or.inl ⟨by rfl, ?_⟩) hHeld ?_ ?_
      rotate_left
      · rintro w' ⟨s0, s1, s2, s3, s4⟩
        go_simp; with_reducible rfl
      rotate_left; · simp only [Act.put, List.setIfInBounds_toArray, List.set_cons_zero, List.set_cons_succ, i64_w, i32_w]; rfl
      refine pure_ (i := 5) (N := some 17) (v := ?_) (a' := ?_) #[true, true, true, true, true, true, false, false, false, false, false] rfl rfl (any_of HT_.out (by kernel_rfl)) (fun _ _ _ h => h) (Or.inl ⟨by rfl, ?_⟩) ?_ ?_
      rotate_left; · intro w'; go_simp; with_reducible rfl
      rotate_left; · simp only [Act.put, List.setIfInBounds_toArray, List.set_cons_zero, List.set_cons_succ, i64_w, i32_w]; rfl
      refine take_ (i := 6) (N := some 18) (v := ?_) (a' := ?_) #[true, true, true, true, true, true, true, false, false, false, false] rfl rfl (take_ofW HT_.out HW_.out (by kernel_rfl)) (fun _ _ _ h => h) (Or.inl ⟨by rfl, ?_⟩) hHeld ?_ ?_
      rotate_left
      · rintro w' ⟨s0, s1, s2, s3, s4⟩
        go_simp; with_reducible rfl
      rotate_left; · simp only [Act.put, List.setIfInBounds_toArray, List.set_cons_zero, List.set_cons_succ, i64_w, i32_w]; rfl
      refine one_ (i := 7) (N := some 19) #[true, true, true, true, true, true, true, true, false, false, false] rfl rfl (one_of HT_.out (by kernel_rfl)) (by decide) (fun K hK => ?_)
      refine goes_ Try.func50 (by kernel_rfl) rfl #[.agg #[.slice (some ⟨b, 0, none⟩) n cg, .slice AE R.length ce, .int .i64 0, .int .i64 0], .int .i64 s] (by rfl) rfl rfl (by simp only [List.map_toArray, List.map_cons, List.map_nil]; rfl) ?_
      with_reducible refine (HCR.out).mono ?_
      rintro e wa ⟨vr, rb, rfl, ho1, hrl, hall⟩
      refine ⟨_, rfl, ?_⟩
      obtain ⟨AB, cB, rfl⟩ := own_slice ho1.r
      have hba : Below wr.heap.size wr wa := ⟨ho1.b.os, ho1.b.tape, ho1.b.output, ho1.b.size, ho1.b.block⟩
      refine hK.out _ _ ⟨(keep_at hba q0), (keep_at hba q1), (keep_at hba q2), (keep_at hba q3), (keep_at hba qs)⟩ (fun hHeld => ?_)
      clear hK K
      refine norm_ (a' := ?_) ?_ ?_
      rotate_left
      · show Act.put _ (some 19) _ = _
        simp only [Act.put, List.setIfInBounds_toArray, List.set_cons_zero, List.set_cons_succ, i64_w, i32_w]; rfl
      refine one_ (i := 8) (N := some 20) #[true, true, true, true, true, true, true, true, true, false, false] rfl rfl (one_of HT_.out (by kernel_rfl)) (by decide) (fun K hK => ?_)
      refine value_ (w1 := ?_) (v := ?_) (by rfl) rfl ?_ ?_
      rotate_left 2
      · go_simp
        constructor
        · rfl
        · rfl
      refine hK.out _ _ ⟨(cell_al (keep_at hba q0) _), (cell_al (keep_at hba q1) _), (cell_al (keep_at hba q2) _), (cell_al (keep_at hba q3) _), (cell_al (keep_at hba qs) _)⟩ (fun hHeld => ?_)
      clear hK K
      refine norm_ (a' := ?_) ?_ ?_
      rotate_left
      · show Act.put _ (some 20) _ = _
        simp only [Act.put, List.setIfInBounds_toArray, List.set_cons_zero, List.set_cons_succ, i64_w, i32_w]; rfl
      refine last_ (i := 9) (N := some 21) #[true, true, true, true, true, true, true, true, true, true, false] rfl rfl (one_of HT_.out (by kernel_rfl)) (by decide) (fun K hK => ?_)
      have hone := HO.out.below hba
      refine step_append_any rfl (.tmp 12) (.tmp 20) 28 rfl w.heap.size 79 i5 (.slice none 0 0) 1 24 Try.underlying28 hi5 hz5 hs5 hy5 rfl (by omega) _ _ _ rfl (hone.r.alloc (.cells #[.slice AB n cB] 79)) _ rfl 1 [.slice AB n cB] (RdV.lit wa #[.slice AB n cB] 79 1 1 1 rfl (by simp [Value.oneCell'])) (by unfold maxLen; omega) (by omega) (by have := hone.b.size; simp; omega) ?_
      intro v3 w3 ho hg hn
      have hone3 := (hone.below ((Below.refl wa.heap.size wa).alloc (Nat.le_refl _) (.cells #[.slice AB n cB] 79))).grow ho hg
      have HN3 := Lib.hid (closure_step HO.out HRS.out hba ho1 hrl hall hg hone3)
      have HX3 := Lib.hid (((HAT.out.below hba HAT.out.lt).al (o := (.cells #[.slice AB n cB] 79))).grown hg (own_off (hone.r.alloc (.cells #[.slice AB n cB] 79)) ((HAT.out.below hba HAT.out.lt).al) (by decide)))
      clear ho hg hn hone hone3 ho1 hrl hall hba; refine hK.out _ _ ?_; clear hK K
      refine norm_ (a' := ?_) ?_ ?_
      rotate_left
      · show Act.put _ (some 21) _ = _
        simp only [Act.put, List.setIfInBounds_toArray, List.set_cons_zero, List.set_cons_succ, i64_w, i32_w]; rfl
      refine pure_ (i := 10) (N := some 3) (v := ?_) (a' := ?_) #[true, true, true, true, true, true, true, true, true, true, true] rfl rfl (any_of HT_.out (by kernel_rfl)) (fun _ _ _ h => h) (Or.inl ⟨by rfl, ?_⟩) ?_ ?_
      rotate_left; · intro w'; go_simp; with_reducible rfl
      rotate_left; · simp only [Act.put, List.setIfInBounds_toArray, List.set_cons_zero, List.set_cons_succ, i64_w, i32_w]; rfl
      refine done_ (done_of HT_.out (by kernel_rfl)) ?_
      clear hHeld HT_ HW_; clear q0 q1 q2 q3 qs
      go_wp2
      go_roundg k1
      case measure => have := HIK.out; omega
      case rel => exact ⟨i + 1, by go_num, Lib.hid ⟨by have := HIK.out; omega, HX3.out, HN3.out⟩⟩
    · obtain rfl : n = i := by omega
      obtain ⟨A', c', rfl⟩ := own_slice hO.r
      have hvl : vals.length = n := by have := hO.r.1; omega
      have hrd : RdC wr A' n (PE sl R) := by
        intro i hi
        obtain ⟨g, rfl, _, hcc⟩ := cell_flat hO.r (by omega)
        obtain ⟨u, hu⟩ : ∃ u, vals[i]? = some u := ⟨_, List.getElem?_eq_getElem (by omega)⟩
        have ho := hR i u hu
        obtain ⟨B, cB, rfl, _, _⟩ := ho.form (by omega)
        refine ⟨g, B, cB, rfl, hcc i _ hu, fun x hx => ?_⟩
        exact (ho.cellAt x (by omega)).trans (bls_at _ (rowB_at hx))
      have HRD := Lib.hid hrd
      have HO := Lib.hid hO
      clear hO hR hvl hrd hat hik hi
      go_wp2
      go_ret
      exact ⟨A', c', rfl, HRD.out, HO.out.b⟩

end Go.Proofs.Ytdohfjidnbhfnaa.Lw

/- The references' Of, walked. -/
namespace Go.Proofs.Ytdohfjidnbhfnaa.Lw
open Go Go.RowKit Go.Proofs.Ytdohfjidnbhfnaa.Mem Go.Proofs.Ytdohfjidnbhfnaa.Sl Go.Proofs.Ytdohfjidnbhfnaa.Scc Go.Proofs.Ytdohfjidnbhfnaa.Tj Go.Proofs.YtdohfjidnbhfnaaW.PrintWords Go.Proofs.YtdohfjidnbhfnaaW.PrintLast
attribute [local go_sem ↓] Go.wp_at_zero Go.wp_at_succ
set_option linter.unusedSimpArgs false
set_option linter.unusedVariables false

def fstB (comp : List Nat) (i j : Nat) : Bool := (comp.take j).all fun c => decide (c ≠ comp.getD i 0)
theorem fstB_succ {comp : List Nat} {i j : Nat} (h : j < comp.length) : fstB comp i (j + 1) = (fstB comp i j && decide (comp.getD j 0 ≠ comp.getD i 0)) := by
  unfold fstB
  rw [List.take_add_one, List.getElem?_eq_getElem h, List.all_append]
  have : comp.getD j 0 = comp[j] := by rw [List.getD_eq_getElem?_getD, List.getElem?_eq_getElem h]; rfl
  rw [this]
  simp
theorem grpZ_up {comp : List Nat} {sl : List Int} {c j : Nat} (h1 : j < comp.length) (h2 : j < sl.length) : grpZ (comp.take (j + 1)) (sl.take (j + 1)) c = grpZ (comp.take j) (sl.take j) c ++ (if comp.getD j 0 = c then [sl.getD j 0] else []) := by
  have e1 : comp.getD j 0 = comp[j] := by rw [List.getD_eq_getElem?_getD, List.getElem?_eq_getElem h1]; rfl
  have e2 : sl.getD j 0 = sl[j] := by rw [List.getD_eq_getElem?_getD, List.getElem?_eq_getElem h2]; rfl
  rw [e1, e2]
  unfold grpZ
  rw [List.take_succ_eq_append_getElem h1, List.take_succ_eq_append_getElem h2, List.zip_append (by rw [List.length_take, List.length_take]; omega), List.filter_append, List.map_append]
  congr 1
  by_cases h : comp[j] = c
  · rw [if_pos h]; simp [h]
  · rw [if_neg h]; simp [h]
theorem grpZ_none {comp : List Nat} {sl : List Int} {i : Nat} (h : fstB comp i i = true) : grpZ (comp.take i) (sl.take i) (comp.getD i 0) = [] := by
  unfold grpZ
  rw [List.filter_eq_nil_iff.2 ?_]
  · rfl
  · intro p hp
    have h1 : p.1 ∈ comp.take i := (List.of_mem_zip hp).1
    have h2 := List.all_eq_true.1 h p.1 h1
    simpa using h2
theorem fstB_iff {comp : List Nat} {i : Nat} : fstB comp i i = true ↔ comp.getD i 0 ∉ comp.take i := by
  unfold fstB
  rw [List.all_eq_true]
  exact ⟨fun h hm => by have := h _ hm; simp at this, fun h c hc => by rw [decide_eq_true_eq]; exact fun e => h (e ▸ hc)⟩
theorem fo_next : ∀ (l : List Nat) (k m i q : Nat), fo l k = some m → fo (l.take i) k = some q → (h : i < l.length) → (fo (l.take (i + 1)) k = some (if l[i] < q then q else q + 1)) ∧ l[i] ≤ q ∧ (l[i] < q ↔ l[i] < k ∨ l[i] ∈ l.take i)
  | [], k, m, i, q, h, hq, hi => by simp at hi
  | c :: r, k, m, 0, q, h, hq, hi => by
    rw [List.take_zero, fo] at hq
    cases hq
    rw [fo] at h
    rw [List.take_succ_cons, List.take_zero, List.getElem_cons_zero, fo]
    split at h
    · rename_i hc
      rw [if_pos hc, if_pos hc]
      exact ⟨rfl, by omega, by simp⟩
    · rename_i hc
      rw [if_neg hc, if_neg hc]
      split at h
      · rename_i hk
        rw [if_pos hk]
        exact ⟨rfl, by omega, by simp⟩
      · cases h
  | c :: r, k, m, i + 1, q, h, hq, hi => by
    rw [fo] at h
    rw [List.take_succ_cons, fo] at hq
    rw [List.take_succ_cons (i := i + 1), List.getElem_cons_succ, fo]
    have hi' : i < r.length := by simpa using hi
    split at h
    · rename_i hc
      rw [if_pos hc] at hq ⊢
      obtain ⟨a, b, d⟩ := fo_next r k m i q h hq hi'
      refine ⟨a, b, d.trans ⟨fun x => x.imp id (fun y => by rw [List.take_succ_cons]; exact List.mem_cons_of_mem _ y), fun x => ?_⟩⟩
      rcases x with x | x
      · exact .inl x
      · rw [List.take_succ_cons] at x
        rcases List.mem_cons.1 x with y | y
        · left; omega
        · exact .inr y
    · rename_i hc
      rw [if_neg hc] at hq ⊢
      split at h
      · rename_i hk
        rw [if_pos hk] at hq ⊢
        obtain ⟨a, b, d⟩ := fo_next r (k + 1) m i q h hq hi'
        refine ⟨a, b, d.trans ⟨fun x => ?_, fun x => ?_⟩⟩
        · rcases x with x | x
          · rcases Nat.lt_or_ge r[i] k with y | y
            · exact .inl y
            · right; rw [List.take_succ_cons]; exact List.mem_cons.2 (.inl (by omega))
          · right; rw [List.take_succ_cons]; exact List.mem_cons_of_mem _ x
        · rcases x with x | x
          · left; omega
          · rw [List.take_succ_cons] at x
            rcases List.mem_cons.1 x with y | y
            · left; omega
            · exact .inr y
      · cases h


theorem mut_iff {n m : Nat} {E : Nat → Nat → Prop} {comp : List Nat} (h : CompOf n E comp m) {i j : Nat} (hi : i < n) (hj : j < n) : (rB E i j && rB E j i) = decide (comp.getD j 0 = comp.getD i 0) := by
  rw [Bool.eq_iff_iff, Bool.and_eq_true, rB_iff, rB_iff, decide_eq_true_eq, ← h.2.2 i j hi hj]
  exact ⟨Eq.symm, Eq.symm⟩

def OSt (w1 : World) (comp : List Nat) (sl : List Int) (i q : Nat) (v4 : Value) (W : World) : Prop :=
  fo (comp.take i) 0 = some q ∧ ∃ vals, One w1 24 1 v4 q vals W ∧ Rz W w1.heap.size vals ((List.range q).map (grpZ comp sl))


set_option maxHeartbeats 8000000 in
set_option maxRecDepth 100000 in
theorem ofR_calls (w : World) (A AE : Option Addr) (cg ce m : Nat) (sl : List Int) (R : List (Int × Int)) (comp : List Nat) (hv : RdI w A sl) (he : RdE w AE R) (hs : sl.Pairwise (· < ·)) (hgood : good sl R = true) (hco : CompOf sl.length (PE sl R) comp m) (hl : sl.length ≤ 1000) (hr : R.length ≤ 100000) :
    Calls Try.prog 49 #[gV A sl.length cg (.slice AE R.length ce)] w fun e w' => ∃ A' c', e = .returned (.slice A' m c') ∧ RdL w' A' (ofL comp sl m) ∧ Below w.heap.size w w' := by
  obtain ⟨i1, hi1, hz1, hs1, hy1⟩ := info_parts info_int
  obtain ⟨i3, hi3, hz3, hs3, hy3⟩ := info_parts info_ints
  obtain ⟨n, hn⟩ : ∃ n, sl.length = n := ⟨_, rfl⟩
  have hclc := fun (W : World) (hW : Below w.heap.size w W) => closure_calls W A AE cg ce sl R (hv.below hW) (he.below hW) hs hgood hl hr
  rw [hn] at hl hco hclc ⊢
  unfold gV at hclc ⊢
  have HV := Lib.hid hv
  have HN := Lib.hid hn
  have HCO := Lib.hid hco
  have HCL := Lib.hid hclc
  clear hv he hs hgood hn hco hclc
  go_enter Try.func49, Try.ntmps49
  go_wp2_with fail
  refine (HCL.out _ ((Below.refl _ _).alloc (Nat.le_refl _) _)).mono ?_
  clear HCL
  rintro e w1 ⟨A3, c3, rfl, hrc, hb1⟩
  have hsz : (w.alloc (.cells #[.slice A n cg, .slice AE R.length ce, .int .i64 0, .int .i64 0] 27)).heap.size = w.heap.size + 1 := by simp
  have hgx : At w1 w.heap.size [.slice A n cg, .slice AE R.length ce, .int .i64 0, .int .i64 0] 27 := (At.made (w := w) (a := #[.slice A n cg, .slice AE R.length ce, .int .i64 0, .int .i64 0]) rfl rfl).below hb1 (by rw [hsz]; omega)
  have hbel : Below w.heap.size w w1 := ((Below.refl _ _).alloc (Nat.le_refl _) _).trans (hb1.mono (by rw [hsz]; omega))
  obtain ⟨gx, hgxe⟩ : ∃ gx, w.heap.size = gx := ⟨_, rfl⟩
  rw [hgxe] at hgx ⊢
  have q0 := hgx.cell 0 rfl
  have HGXE := Lib.hid hgxe
  have HX := Lib.hid hgx
  have HRC := Lib.hid hrc
  have HB1 := Lib.hid hbel
  have HV1 := Lib.hid (HV.out.below (hgxe ▸ hbel : Below w.heap.size w w1))
  clear hsz hgx hbel hrc hb1 HV
  go_wp2_with fail
  clear q0
  go_loopg [4, 5] n (fun kq v4 v5 w' => ∃ i q : Nat, v5 = .int .i64 (i : Int) ∧ Hid (i + kq = n ∧ q ≤ i ∧ OSt w1 comp sl i q v4 w'))
  case atStart => exact ⟨0, 0, rfl, Lib.hid ⟨by omega, Nat.le_refl _, rfl, [], One.start, Rz.nil⟩⟩
  case round =>
    obtain ⟨i, q, rfl, hI⟩ := hrel
    obtain ⟨hik, hqi, hfo, vals, hO, hZ⟩ := hI.out
    clear hI
    have q0 := (HX.out.below hO.b HX.out.lt).cell 0 rfl
    have hcn : comp.length = n := HCO.out.1
    by_cases hi : i < n
    · obtain ⟨k1, rfl⟩ : ∃ k1, gk = k1 + 1 := ⟨gk - 1, by omega⟩
      obtain ⟨b3, Bi, cBi, rfl, ci, cix⟩ := (HRC.out.below hO.b) i hi
      have hci : comp.getD i 0 = comp[i]'(by omega) := by rw [List.getD_eq_getElem?_getD, List.getElem?_eq_getElem (by omega)]; rfl
      obtain ⟨hf1, hf2, hf3⟩ := fo_next comp 0 m i q HCO.out.2.1 hfo (by omega)
      rw [← hci] at hf1 hf2 hf3
      have HF1 := Lib.hid hf1
      have HF2 := Lib.hid hf2
      have HF3 := Lib.hid hf3
      have HO := Lib.hid hO
      have HZ := Lib.hid hZ
      have HIK := Lib.hid (show i + (k1 + 1) = n ∧ q ≤ i ∧ i < n ∧ comp.length = n from ⟨hik, hqi, hi, hcn⟩)
      have HCI := Lib.hid ci
      have HCX := Lib.hid cix
      have HCR := Lib.hid (HRC.out.below hO.b)
      have HVW := Lib.hid (RdI.below HV1.out hO.b)
      have HXW := Lib.hid (HX.out.below hO.b HX.out.lt)
      have j0 : (0 : Int) ≤ (i : Int) := by omega
      have j1 : (i : Int) < (n : Int) := by omega
      have j2 : (n : Int) ≤ 1000 := by omega
      obtain ⟨wr0, hwr0⟩ : ∃ wr0, wr = wr0 := ⟨_, rfl⟩
      rw [hwr0] at HO HZ HCI HCX HCR HVW HXW q0 ⊢
      clear hf1 hf2 hf3 hfo hO hZ hik hqi hcn hci ci cix hwr0 hi
      go_wp2_with fail
      go_loopg [6, 7] i (fun kq v6 v7 w' => ∃ j : Nat, v7 = .int .i64 (j : Int) ∧ v6 = .bool (fstB comp i j) ∧ Hid (j + kq = i ∧ w' = wr0))
      case atStart => exact ⟨0, rfl, rfl, Lib.hid ⟨by omega, rfl⟩⟩
      case round =>
        obtain ⟨j, rfl, rfl, hI⟩ := hrel
        obtain ⟨hji, hw⟩ := hI.out
        subst hw
        clear hI
        by_cases hj : j < i
        · obtain ⟨k2, rfl⟩ : ∃ k2, gk = k2 + 1 := ⟨gk - 1, by omega⟩
          have hin := HIK.out.2.2.1
          obtain ⟨_, Bj, cBj, hbe, cj, cjx⟩ := HCR.out j (by omega)
          cases hbe
          have ci := HCI.out
          have x1 := HCX.out j (by omega)
          have x2 := cjx i hin
          have hmu := mut_iff HCO.out hin (show j < n by omega)
          have hsu := fstB_succ (comp := comp) (i := i) (j := j) (by have := HIK.out.2.2.2; omega)
          obtain ⟨r1, hr1⟩ : ∃ r1, rB (PE sl R) i j = r1 := ⟨_, rfl⟩
          obtain ⟨r2, hr2⟩ : ∃ r2, rB (PE sl R) j i = r2 := ⟨_, rfl⟩
          obtain ⟨fb, hfb⟩ : ∃ fb, fstB comp i j = fb := ⟨_, rfl⟩
          rw [hr1] at x1 hmu
          rw [hr2] at x2 hmu
          rw [hfb] at hsu ⊢
          have hnew : fstB comp i (j + 1) = (fb && !(r1 && r2)) := by rw [hsu, hmu]; simp
          have HNW := Lib.hid hnew
          have HJ := Lib.hid hji
          have k0 : (0 : Int) ≤ (j : Int) := by omega
          have k1' : (j : Int) < (i : Int) := by omega
          have k3 : (j : Int) < (n : Int) := by omega
          clear hmu hsu hnew hr1 hr2 hfb cjx hji hj
          cases fb <;> cases r1 <;> cases r2
          all_goals go_wp2
          all_goals go_roundg k2
          all_goals first
            | (have := HJ.out; omega)
            | exact ⟨j + 1, by go_num, by rw [HNW.out]; rfl, Lib.hid ⟨by have := HJ.out; omega, rfl⟩⟩
        · obtain rfl : i = j := by omega
          clear hji hj
          cases hfb : fstB comp i i with
          | false =>
            have hin : comp.getD i 0 < q := HF3.out.2 (.inr (Classical.byContradiction fun h => by rw [fstB_iff.2 h] at hfb; cases hfb))
            have hfo := HF1.out
            rw [if_pos hin] at hfo
            have HFO := Lib.hid hfo
            clear hfb hin hfo
            go_wp2
            go_roundg k1
            case measure => have := HIK.out.1; omega
            case rel => exact ⟨i + 1, q, by go_num, Lib.hid ⟨by have := HIK.out.1; omega, by have := HIK.out.2.1; omega, HFO.out, vals, HO.out, HZ.out⟩⟩
          | true =>
            have hni := fstB_iff.1 hfb
            have hnq : ¬ comp.getD i 0 < q := fun h => by
              rcases HF3.out.1 h with h | h
              · omega
              · exact hni h
            have hq : comp.getD i 0 = q := by have := HF2.out; omega
            have hfo := HF1.out
            rw [if_neg hnq] at hfo
            have hg0 := grpZ_none (sl := sl) hfb
            rw [hq] at hg0
            have hmu : ∀ j, j < n → (rB (PE sl R) i j && rB (PE sl R) j i) = decide (comp.getD j 0 = q) := fun j hj => by rw [mut_iff HCO.out HIK.out.2.2.1 hj, hq]
            have HFO := Lib.hid hfo
            have HG0 := Lib.hid hg0
            have HMU := Lib.hid hmu
            clear hfb hni hnq hq hfo hg0 hmu HF1 HF2 HF3
            obtain ⟨wz, hwz⟩ : ∃ wz, wr = wz := ⟨_, rfl⟩
            rw [hwz] at HO HZ HCI HCX HCR HVW HXW q0 ⊢
            clear hwz
            go_wp2_with fail
            go_loopg [8, 9] (n - i) (fun kq v8 v9 w' => ∃ j : Nat, v9 = .int .i64 (j : Int) ∧ Hid (j + kq = n ∧ i ≤ j ∧ One wz 3 1 v8 (grpZ (comp.take j) (sl.take j) q).length (ints (grpZ (comp.take j) (sl.take j) q)) w'))
            case atStart => exact ⟨i, rfl, Lib.hid ⟨by have := HIK.out.2.2.1; omega, Nat.le_refl _, by rw [HG0.out]; exact One.start⟩⟩
            case round =>
              clear q0
              obtain ⟨j, rfl, hI⟩ := hrel
              obtain ⟨hjk, hij, hO8⟩ := hI.out
              clear hI
              have q0 := (HXW.out.below hO8.b HXW.out.lt).cell 0 rfl
              by_cases hj : j < n
              · obtain ⟨k2, rfl⟩ : ∃ k2, gk = k2 + 1 := ⟨gk - 1, by omega⟩
                obtain ⟨_, Bj, cBj, hbe, cj, cjx⟩ := (HCR.out.below hO8.b) j hj
                cases hbe
                have ci := keep_at hO8.b HCI.out
                have x1 := keep_at hO8.b (HCX.out j hj)
                have x2 := cjx i HIK.out.2.2.1
                have hmu := HMU.out j hj
                obtain ⟨y, hy⟩ : ∃ y, sl[j]? = some y := ⟨_, List.getElem?_eq_getElem (by have := HN.out; omega)⟩
                obtain ⟨ba, rfl, cy⟩ := (RdI.below HVW.out hO8.b) j y hy
                have hup := grpZ_up (comp := comp) (sl := sl) (c := q) (j := j) (by have := HIK.out.2.2.2; omega) (by have := HN.out; omega)
                rw [show sl.getD j 0 = y by rw [List.getD_eq_getElem?_getD, hy]; rfl] at hup
                obtain ⟨r1, hr1⟩ : ∃ r1, rB (PE sl R) i j = r1 := ⟨_, rfl⟩
                obtain ⟨r2, hr2⟩ : ∃ r2, rB (PE sl R) j i = r2 := ⟨_, rfl⟩
                rw [hr1] at x1 hmu
                rw [hr2] at x2 hmu
                obtain ⟨g8, hg8⟩ : ∃ g8, grpZ (comp.take j) (sl.take j) q = g8 := ⟨_, rfl⟩
                have hg8n : g8.length ≤ 1000 := by
                  rw [← hg8]
                  refine Nat.le_trans (grpZ_length _ _ _) ?_
                  rw [List.length_take]
                  omega
                rw [hg8] at hO8 hup
                have HO8 := Lib.hid hO8
                have HUP := Lib.hid hup
                have HJ := Lib.hid (show j + (k2 + 1) = n ∧ i ≤ j from ⟨hjk, hij⟩)
                have k0 : (0 : Int) ≤ (j : Int) := by omega
                have k1' : (j : Int) < (n : Int) := by omega
                by_cases hjq : comp.getD j 0 = q
                · rw [decide_eq_true hjq] at hmu
                  have hr12 := Bool.and_eq_true_iff.1 hmu
                  have HQ := Lib.hid hjq
                  rw [hr12.1] at x1
                  rw [hr12.2] at x2
                  clear hmu hr1 hr2 hr12 cjx hjk hij hj hjq hup hO8 hg8 hy r1 r2
                  go_wp2_with ((at_builtin; (refine wpList_append_any rfl (.tmp 70) (.tmp 76) 24 rfl wz.heap.size 3 i1 (.int .i64 0) 1 8 Try.underlying24 hi1 hz1 hs1 hy1 rfl (by omega) _ _ _ rfl (HO8.out.r.alloc (.cells #[.int .i64 y] 3)) _ rfl 1 [.int .i64 y] (RdV.lit wr #[.int .i64 y] 3 1 1 1 rfl (by simp [Value.oneCell'])) (by unfold maxLen; omega) (by omega) (by have := HO8.out.b.size; simp; omega) ?_; intro v8 w8 ho hg hn; have hone := (HO8.out.below ((Below.refl _ _).alloc (Nat.le_refl _) (.cells #[.int .i64 y] 3))).grow ho hg; have HO9 := Lib.hid hone; clear ho hg hn hone HO8)))
                  go_roundg k2
                  case measure => have := HJ.out.1; omega
                  case rel =>
                    refine ⟨j + 1, by go_num, Lib.hid ⟨by have := HJ.out.1; omega, by have := HJ.out.2; omega, ?_⟩⟩
                    rw [HUP.out, if_pos HQ.out, List.length_append, List.length_singleton, ← ints_snoc]
                    exact HO9.out
                · rw [decide_eq_false hjq] at hmu
                  have HQ := Lib.hid hjq
                  clear hr1 hr2 cjx hjk hij hj hjq hup hO8 hg8 hy
                  have HREL := Lib.hid (show One wz 3 1 u8 (grpZ (comp.take (j + 1)) (sl.take (j + 1)) q).length (ints (grpZ (comp.take (j + 1)) (sl.take (j + 1)) q)) wr by
                    rw [HUP.out, if_neg HQ.out, List.append_nil]; exact HO8.out)
                  cases r1 <;> cases r2
                  case true.true => cases hmu
                  all_goals clear hmu
                  all_goals go_wp2
                  all_goals go_roundg k2
                  all_goals first
                    | (have := HJ.out.1; omega)
                    | exact ⟨j + 1, by go_num, Lib.hid ⟨by have := HJ.out.1; omega, by have := HJ.out.2; omega, HREL.out⟩⟩
              · obtain rfl : n = j := by omega
                rw [List.take_of_length_le (by have := HIK.out.2.2.2; omega), List.take_of_length_le (by have := HN.out; omega)] at hO8
                obtain ⟨A8, c8, rfl⟩ := own_slice hO8.r
                have hzn := HZ.out.snoc hO8.b (Nat.le_refl _) HO.out.b.size hO8.r
                have hrg : (List.range q).map (grpZ comp sl) ++ [grpZ comp sl q] = (List.range (q + 1)).map (grpZ comp sl) := by rw [List.range_succ, List.map_append]; rfl
                rw [hrg] at hzn
                obtain ⟨n8, hn8⟩ : ∃ n8, (grpZ comp sl q).length = n8 := ⟨_, rfl⟩
                rw [hn8] at hzn ⊢
                have HZN := Lib.hid hzn
                have HON := Lib.hid (HO.out.below hO8.b)
                have hqn : q ≤ 1000 := by have := HIK.out.2.1; omega
                clear hO8 hzn hrg hn8 hjk hij hj
                go_wp2_with ((at_builtin; (refine wpList_append_any rfl (.tmp 78) (.tmp 80) 95 rfl w1.heap.size 24 i3 (.slice none 0 0) 1 24 Try.underlying95 hi3 hz3 hs3 hy3 rfl (by omega) _ _ _ rfl (HON.out.r.alloc (.cells #[.slice A8 n8 c8] 24)) _ rfl 1 [.slice A8 n8 c8] (RdV.lit wr #[.slice A8 n8 c8] 24 1 1 1 rfl (by simp [Value.oneCell'])) (by unfold maxLen; omega) (by omega) (by have := HON.out.b.size; simp; omega) ?_; intro v4 w4 ho hg hn; have hone := (HON.out.below ((Below.refl _ _).alloc (Nat.le_refl _) (.cells #[.slice A8 n8 c8] 24))).grow ho hg; have hzz := (HZN.out.below ((Below.refl _ _).alloc (Nat.le_refl _) (.cells #[.slice A8 n8 c8] 24))).other (HON.out.r.alloc (.cells #[.slice A8 n8 c8] 24)) (by decide) hg; have HO4 := Lib.hid hone; have HZ4 := Lib.hid hzz; clear ho hg hn hone hzz)))
                go_roundg k1
                case measure => have := HIK.out.1; omega
                case rel => exact ⟨i + 1, q + 1, by go_num, Lib.hid ⟨by have := HIK.out.1; omega, by have := HIK.out.2.1; omega, HFO.out, _, HO4.out, HZ4.out⟩⟩
    · obtain rfl : n = i := by omega
      rw [List.take_of_length_le (by omega)] at hfo
      obtain rfl : m = q := Option.some.inj (HCO.out.2.1.symm.trans hfo)
      obtain ⟨A', c', rfl⟩ := own_slice hO.r
      have hvl : vals.length = m := by have := hO.r.1; omega
      have hrd : RdL wr A' (ofL comp sl m) := by
        intro k r hk
        have hkm : k < m := by have := (List.getElem?_eq_some_iff.1 hk).1; simpa [ofL] using this
        obtain ⟨g, rfl, _, hcc⟩ := cell_flat hO.r (by omega)
        obtain ⟨u, hu⟩ : ∃ u, vals[k]? = some u := ⟨_, List.getElem?_eq_getElem (by omega)⟩
        obtain ⟨B, cB, rfl, hrb⟩ := hZ.rd hu hk
        exact ⟨g, B, cB, rfl, hcc k _ hu, hrb⟩
      have HRD := Lib.hid hrd
      have HO := Lib.hid hO
      clear hO hZ hvl hrd hfo hik hqi hcn hi
      go_wp2
      go_ret
      exact ⟨A', c', rfl, HRD.out, HB1.out.trans (HO.out.b.mono HB1.out.size)⟩

end Go.Proofs.Ytdohfjidnbhfnaa.Lw
