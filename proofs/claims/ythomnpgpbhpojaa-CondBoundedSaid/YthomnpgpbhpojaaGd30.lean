/- The references' Closure, walked. -/
import Derived.Test.YthomnpgpbhpojaaGd29
import Derived.Test.YthomnpgpbhpojaaGd24
import Derived.Test.YthomnpgpbhpojaaGd28
namespace Go.Proofs.Ythomnpgpbhpojaa.Lw
open Go Go.RowKit Go.Proofs.Ythomnpgpbhpojaa.Mem Go.Proofs.Ythomnpgpbhpojaa.Sl Go.Proofs.Ythomnpgpbhpojaa.Scc Go.Proofs.Ythomnpgpbhpojaa.Tj Go.Proofs.YthomnpgpbhpojaaW.PrintWords Go.Proofs.YthomnpgpbhpojaaW.PrintLast
attribute [local go_sem ↓] Go.wp_at_zero Go.wp_at_succ
set_option linter.unusedSimpArgs false
set_option linter.unusedVariables false

theorem info_bools : (Try.prog.info? 90).map (fun i => (i.zero, i.size, i.bytes)) = some (some (.slice none 0 0), 1, 24) := by kernel_rfl

open Classical in
noncomputable def rB (E : Nat → Nat → Prop) (i x : Nat) : Bool := decide (Rch E i x)
theorem rB_iff {E : Nat → Nat → Prop} {i x : Nat} : rB E i x = true ↔ Rch E i x := by
  unfold rB
  exact @decide_eq_true_iff _ (Classical.propDecidable _)
noncomputable def rowB (E : Nat → Nat → Prop) (n i : Nat) : List Bool := (List.range n).map (rB E i)
theorem rowB_length (E : Nat → Nat → Prop) (n i : Nat) : (rowB E n i).length = n := by simp [rowB]
theorem rowB_eq {E : Nat → Nat → Prop} {n i : Nat} {rb : List Bool} (hl : rb.length = n) (h : ∀ x : Nat, rb[x]? = some true ↔ Rch E i x) : rb = rowB E n i := by
  refine List.ext_getElem (by rw [hl, rowB_length]) fun x h1 h2 => ?_
  have e : (rowB E n i)[x] = rB E i x := by simp [rowB]
  rw [e, Bool.eq_iff_iff, rB_iff, ← h x, List.getElem?_eq_getElem h1]
  simp
theorem rowB_at {E : Nat → Nat → Prop} {n i x : Nat} (h : x < n) : (rowB E n i)[x]? = some (rB E i x) := by
  unfold rowB
  rw [List.getElem?_map, List.getElem?_range h]
  rfl

def RdC (w : World) (A : Option Addr) (n : Nat) (E : Nat → Nat → Prop) : Prop := ∀ i, i < n → ∃ b B cB, A = some ⟨b, 0, none⟩ ∧ w.cell? ⟨b, i, none⟩ = some (.slice (some ⟨B, 0, none⟩) n cB) ∧ ∀ x, x < n → w.cell? ⟨B, x, none⟩ = some (.bool (rB E i x))
theorem RdC.below {w w' : World} {A : Option Addr} {n : Nat} {E : Nat → Nat → Prop} (h : RdC w A n E) (hb : Below w.heap.size w w') : RdC w' A n E := fun i hi => by
  obtain ⟨b, B, cB, h1, h2, h3⟩ := h i hi
  exact ⟨b, B, cB, h1, keep_at hb h2, fun x hx => keep_at hb (h3 x hx)⟩

def CSt (w : World) (n i : Nat) (E : Nat → Nat → Prop) (v : Value) (W : World) : Prop :=
  ∃ vals, One w 90 1 v i vals W ∧ ∀ (j : Nat) (u : Value), vals[j]? = some u → W.ownsRow w.heap.size 4 1 u n (bls (rowB E n j))

def tb54_5.T5 : Bool × List (List Nat × List Nat) := (true, [([], []), ([], []), ([], []), ([2], [2]), ([], []), ([3, 4], [3, 4]), ([5], [5]), ([1, 6], [1, 6]), ([7], [7]), ([0, 8, 7], [0, 8]), ([9, 9, 0, 1, 2, 3, 4, 5, 6, 7, 8, 9], [0, 9])])
def tb54_5.B5 : List Nat := [0, 0, 0, 4, 0, 28, 60, 126, 254, 511, 1023]
theorem tb54_5.tab5 : rtab .any (opsOf Try.f54 5) = tb54_5.T5 := by kernel_rfl
theorem tb54_5.bits5 : waitsOk tb54_5.T5.2 tb54_5.B5 = true := by kernel_rfl
theorem closure_step {w wr wa w3 : World} {n i : Nat} {E : Nat → Nat → Prop} {v v3 : Value} {vals : List Value} {AB : Option Addr} {cB : Nat} {rb : List Bool}
    (hO : One w 90 1 v i vals wr) (hR : ∀ (j : Nat) (u : Value), vals[j]? = some u → wr.ownsRow w.heap.size 4 1 u n (bls (rowB E n j))) (hba : Below wr.heap.size wr wa)
    (ho1 : One wr.drew 4 1 (.slice AB n cB) n (bls rb) wa) (hrl : rb.length = n) (hall : ∀ x : Nat, rb[x]? = some true ↔ Rch E i x)
    (hg : (wa.alloc (.cells #[.slice AB n cB] 90)).grownBy w3 v.ownBlock) (hone3 : One w 90 1 v3 (i + 1) (vals ++ [.slice AB n cB]) w3) : CSt w n (i + 1) E v3 w3 := by
  have hvl : vals.length = i := by have := hO.r.1; omega
  have hown := (own_below hO.r hba).alloc (.cells #[.slice AB n cB] 90)
  refine ⟨_, hone3, fun j u hu => ?_⟩
  rcases Nat.lt_or_ge j vals.length with hj | hj
  · rw [List.getElem?_append_left hj] at hu
    have h1 := (own_below (hR j u hu) hba).alloc (.cells #[.slice AB n cB] 90)
    exact h1.kept hg (own_types h1 hown (by decide))
  · have hj0 : j = i := by
      have := (List.getElem?_eq_some_iff.1 hu).1
      simp at this
      omega
    subst hj0
    rw [List.getElem?_append_right hj, hvl, Nat.sub_self] at hu
    cases hu
    rw [← rowB_eq hrl hall]
    have h1 := (own_mono (B' := w.heap.size) ho1.r hO.b.size).alloc (.cells #[.slice AB n cB] 90)
    exact h1.kept hg (own_types h1 hown (by decide))

set_option maxHeartbeats 8000000 in
set_option maxRecDepth 100000 in
theorem closure_calls {gw : Int} (w : World) (A AE : Option Addr) (cg ce : Nat) (sl : List Int) (R : List (Int × Int)) (hv : RdI w A sl) (he : RdE w AE R) (hs : sl.Pairwise (· < ·)) (hgood : good sl R = true) (hl : sl.length ≤ 1000) (hr : R.length ≤ 100000) :
    Calls Try.prog 54 #[gV A sl.length cg (.slice AE R.length ce) gw] w fun e w' => ∃ A' c', e = .returned (.slice A' sl.length c') ∧ RdC w' A' sl.length (PE sl R) ∧ Below w.heap.size w w' := by
  obtain ⟨i5, hi5, hz5, hs5, hy5⟩ := info_parts info_bools
  obtain ⟨n, hn⟩ : ∃ n, sl.length = n := ⟨_, rfl⟩
  rw [hn] at hl ⊢
  have HV := Lib.hid hv
  have HE := Lib.hid he
  have HS := Lib.hid hs
  have HGD := Lib.hid hgood
  have HN := Lib.hid hn
  clear hv he hs hgood hn
  unfold gV
  go_enter Try.func54, Try.ntmps54
  go_wp2_with fail
  refine gen_loopw (fun W => At W w.heap.size [.slice A n cg, .slice AE R.length ce, .int .i64 0, .int .i64 gw] 28 ∧ Below w.heap.size w W) ?_ ?_
  · exact ⟨At.made rfl rfl, (Below.refl _ _).alloc (Nat.le_refl _) _⟩
  obtain ⟨gx, hgx⟩ : ∃ gx, w.heap.size = gx := ⟨_, rfl⟩
  rw [hgx]
  have HGX := Lib.hid hgx
  rintro w3 ⟨hat, hb⟩
  rw [← hgx] at hb
  have HAT := Lib.hid hat
  have HB := Lib.hid hb
  clear hat hb hgx
  go_loopg [3, 4] n (fun kq v3 v4 w' => ∃ i : Nat, v4 = .int .i64 (i : Int) ∧ Hid (i + kq = n ∧ At w' gx [.slice A n cg, .slice AE R.length ce, .int .i64 0, .int .i64 gw] 28 ∧ CSt w n i (PE sl R) v3 w'))
  case atStart => exact ⟨0, rfl, Lib.hid ⟨by omega, HAT.out, [], One.startAt HB.out, fun j u h => by simp at h⟩⟩
  case round =>
    clear HAT HB
    obtain ⟨i, rfl, hI⟩ := hrel
    obtain ⟨hik, hat, vals, hO, hR⟩ := hI.out
    clear hI
    have q0 := hat.cell 0 rfl
    by_cases hi : i < n
    · obtain ⟨k1, rfl⟩ : ∃ k1, gk = k1 + 1 := ⟨gk - 1, by omega⟩
      obtain ⟨s, hsx⟩ : ∃ s, sl[i]? = some s := ⟨_, List.getElem?_eq_getElem (by have := HN.out; omega)⟩
      obtain ⟨b, rfl, qs⟩ := (HV.out.below hO.b) i s hsx
      have q1 := hat.cell 1 rfl
      have q2 := hat.cell 2 rfl
      have q3 := hat.cell 3 rfl
      have hba : Below wr.heap.size wr wr.drew := (Below.refl _ _).drew
      have hC := reached_calls (gw := gw) wr.drew (some ⟨b, 0, none⟩) AE cg ce i sl R s ((HV.out.below hO.b).below hba) ((HE.out.below hO.b).below hba) HS.out HGD.out hsx (by have := HN.out; omega) hr
      rw [HN.out] at hC
      unfold gV at hC
      have HCR := Lib.hid hC
      have HO := Lib.hid hO
      have HRS := Lib.hid hR
      have HAT := Lib.hid hat
      have HIK := Lib.hid hik
      have j0 : (0 : Int) ≤ (i : Int) := by omega
      have j1 : (i : Int) < (n : Int) := by omega
      have j2 : (n : Int) ≤ 1000 := by omega
      clear hC hO hR hat hik hsx hba hi
      go_upto_region 5 with (fail)
      refine start_ (n := 11) (S := fun w' => w'.cell? ⟨gx, 0, none⟩ = some (.slice (some ⟨b, 0, none⟩) n cg) ∧ w'.cell? ⟨gx, 1, none⟩ = some (.slice AE R.length ce) ∧ w'.cell? ⟨gx, 2, none⟩ = some (.int .i64 0) ∧ w'.cell? ⟨gx, 3, none⟩ = some (.int .i64 gw) ∧ w'.cell? ⟨b, i, none⟩ = some (.int .i64 s)) (ds := [9]) (bA 11 0) (by kernel_rfl) rfl rfl ⟨q0, q1, q2, q3, qs⟩ (fun hHeld => ?_)
      refine with_tabW tb54_5.tab5 tb54_5.bits5 (fun HT_ HW_ => ?_)
      refine pure_ (i := 0) (N := some 12) (v := ?_) (a' := ?_) (bA 11 1) rfl rfl (any_of HT_.out (by kernel_rfl)) (fun _ _ _ h => h) (Or.inl ⟨by rfl, ?_⟩) ?_ ?_
      rotate_left; · intro w'; go_simp; with_reducible rfl
      rotate_left; · simp only [Act.put, pA, pB, pC, pD, pE]; rfl
      refine pure_ (i := 2) (N := some 14) (v := ?_) (a' := ?_) (bA 11 5) rfl rfl (any_of HT_.out (by kernel_rfl)) (fun _ _ _ h => h) (Or.inl ⟨by rfl, ?_⟩) ?_ ?_
      rotate_left; · intro w'; go_simp; with_reducible rfl
      rotate_left; · simp only [Act.put, pA, pB, pC, pD, pE]; rfl
      refine pure_ (i := 4) (N := some 16) (v := ?_) (a' := ?_) (bA 11 21) rfl rfl (any_of HT_.out (by kernel_rfl)) (fun _ _ _ h => h) (Or.inl ⟨by rfl, ?_⟩) ?_ ?_
      rotate_left; · intro w'; go_simp; with_reducible rfl
      rotate_left; · simp only [Act.put, pA, pB, pC, pD, pE]; rfl
      refine take_ (i := 1) (N := some 13) (v := ?_) (a' := ?_) (bA 11 23) rfl rfl (take_ofW HT_.out HW_.out (by kernel_rfl)) (fun _ _ _ h => h) (Or.inl ⟨by rfl, ?_⟩) hHeld ?_ ?_
      rotate_left
      · rintro w' ⟨s0, s1, s2, s3, s4⟩
        go_simp; with_reducible rfl
      rotate_left; · simp only [Act.put, pA, pB, pC, pD, pE]; rfl
      refine take_ (i := 3) (N := some 15) (v := ?_) (a' := ?_) (bA 11 31) rfl rfl (take_ofW HT_.out HW_.out (by kernel_rfl)) (fun _ _ _ h => h) (Or.inl ⟨by rfl, ?_⟩) hHeld ?_ ?_
      rotate_left
      · rintro w' ⟨s0, s1, s2, s3, s4⟩
        go_simp; with_reducible rfl
      rotate_left; · simp only [Act.put, pA, pB, pC, pD, pE]; rfl
      refine pure_ (i := 5) (N := some 17) (v := ?_) (a' := ?_) (bA 11 63) rfl rfl (any_of HT_.out (by kernel_rfl)) (fun _ _ _ h => h) (Or.inl ⟨by rfl, ?_⟩) ?_ ?_
      rotate_left; · intro w'; go_simp; with_reducible rfl
      rotate_left; · simp only [Act.put, pA, pB, pC, pD, pE]; rfl
      refine take_ (i := 6) (N := some 18) (v := ?_) (a' := ?_) (bA 11 127) rfl rfl (take_ofW HT_.out HW_.out (by kernel_rfl)) (fun _ _ _ h => h) (Or.inl ⟨by rfl, ?_⟩) hHeld ?_ ?_
      rotate_left
      · rintro w' ⟨s0, s1, s2, s3, s4⟩
        go_simp; with_reducible rfl
      rotate_left; · simp only [Act.put, pA, pB, pC, pD, pE]; rfl
      refine one_ (i := 7) (N := some 19) (bA 11 255) rfl rfl (one_of HT_.out (by kernel_rfl)) (by decide) (fun K hK => ?_)
      refine goes_ Try.func65 (by kernel_rfl) rfl #[.agg #[.slice (some ⟨b, 0, none⟩) n cg, .slice AE R.length ce, .int .i64 0, .int .i64 gw], .int .i64 s] (by rfl) rfl rfl (by simp only [List.map_toArray, List.map_cons, List.map_nil]; rfl) ?_
      with_reducible refine (HCR.out).mono ?_
      rintro e wa ⟨vr, rb, rfl, ho1, hrl, hall⟩
      refine ⟨_, rfl, ?_⟩
      obtain ⟨AB, cB, rfl⟩ := own_slice ho1.r
      have hba : Below wr.heap.size wr wa := ⟨ho1.b.os, ho1.b.tape, ho1.b.output, ho1.b.size, ho1.b.block⟩
      refine hK.out _ _ ⟨(keep_at hba q0), (keep_at hba q1), (keep_at hba q2), (keep_at hba q3), (keep_at hba qs)⟩ (fun hHeld => ?_)
      clear hK K
      refine norm_ (a' := ?_) ?_ ?_
      rotate_left
      · show Act.put _ (some 19) _ = _
        simp only [Act.put, pA, pB, pC, pD, pE]; rfl
      refine one_ (i := 8) (N := some 20) (bA 11 511) rfl rfl (one_of HT_.out (by kernel_rfl)) (by decide) (fun K hK => ?_)
      refine value_ (w1 := ?_) (v := ?_) (by rfl) rfl ?_ ?_
      rotate_left 2
      · go_simp
        constructor
        · rfl
        · rfl
      refine hK.out _ _ ⟨(cell_al (keep_at hba q0) _), (cell_al (keep_at hba q1) _), (cell_al (keep_at hba q2) _), (cell_al (keep_at hba q3) _), (cell_al (keep_at hba qs) _)⟩ (fun hHeld => ?_)
      clear hK K
      refine norm_ (a' := ?_) ?_ ?_
      rotate_left
      · show Act.put _ (some 20) _ = _
        simp only [Act.put, pA, pB, pC, pD, pE]; rfl
      refine last_ (i := 9) (N := some 21) (bA 11 1023) rfl rfl (one_of HT_.out (by kernel_rfl)) (by decide) (fun K hK => ?_)
      have hone := HO.out.below hba
      refine step_append_any rfl (.tmp 12) (.tmp 20) 88 rfl w.heap.size 90 i5 (.slice none 0 0) 1 24 Try.underlying88 hi5 hz5 hs5 hy5 rfl (by omega) _ _ _ rfl (hone.r.alloc (.cells #[.slice AB n cB] 90)) _ rfl 1 [.slice AB n cB] (RdV.lit wa #[.slice AB n cB] 90 1 1 1 rfl (by simp [Value.oneCell'])) (by unfold maxLen; omega) (by omega) (by have := hone.b.size; simp; omega) ?_
      intro v3 w3 ho hg hn
      have hone3 := (hone.below ((Below.refl wa.heap.size wa).alloc (Nat.le_refl _) (.cells #[.slice AB n cB] 90))).grow ho hg
      have HN3 := Lib.hid (closure_step HO.out HRS.out hba ho1 hrl hall hg hone3)
      have HX3 := Lib.hid (((HAT.out.below hba HAT.out.lt).al (o := (.cells #[.slice AB n cB] 90))).grown hg (own_off (hone.r.alloc (.cells #[.slice AB n cB] 90)) ((HAT.out.below hba HAT.out.lt).al) (by decide)))
      clear ho hg hn hone hone3 ho1 hrl hall hba; refine hK.out _ _ ?_; clear hK K
      refine norm_ (a' := ?_) ?_ ?_
      rotate_left
      · show Act.put _ (some 21) _ = _
        simp only [Act.put, pA, pB, pC, pD, pE]; rfl
      refine pure_ (i := 10) (N := some 3) (v := ?_) (a' := ?_) (bA 11 2047) rfl rfl (any_of HT_.out (by kernel_rfl)) (fun _ _ _ h => h) (Or.inl ⟨by rfl, ?_⟩) ?_ ?_
      rotate_left; · intro w'; go_simp; with_reducible rfl
      rotate_left; · simp only [Act.put, pA, pB, pC, pD, pE]; rfl
      refine done_ (done_of HT_.out (by kernel_rfl)) ?_
      clear hHeld HT_ HW_; clear q0 q1 q2 q3 qs
      go_wp2
      go_roundg k1
      case measure => have := HIK.out; omega
      case rel => exact ⟨i + 1, by go_num, Lib.hid ⟨by have := HIK.out; omega, HX3.out, HN3.out⟩⟩
    · obtain rfl : n = i := by omega
      obtain ⟨A', c', rfl⟩ := own_slice hO.r
      have hvl : vals.length = n := by have := hO.r.1; omega
      have hrd : RdC wr A' n (PE sl R) := by
        intro i hi
        obtain ⟨g, rfl, _, hcc⟩ := cell_flat hO.r (by omega)
        obtain ⟨u, hu⟩ : ∃ u, vals[i]? = some u := ⟨_, List.getElem?_eq_getElem (by omega)⟩
        have ho := hR i u hu
        obtain ⟨B, cB, rfl, _, _⟩ := ho.form (by omega)
        refine ⟨g, B, cB, rfl, hcc i _ hu, fun x hx => ?_⟩
        exact (ho.cellAt x (by omega)).trans (bls_at _ (rowB_at hx))
      have HRD := Lib.hid hrd
      have HO := Lib.hid hO
      clear hO hR hvl hrd hat hik hi
      go_wp2
      go_ret
      exact ⟨A', c', rfl, HRD.out, HO.out.b⟩

end Go.Proofs.Ythomnpgpbhpojaa.Lw

/- The references' Of, walked. -/
namespace Go.Proofs.Ythomnpgpbhpojaa.Lw
open Go Go.RowKit Go.Proofs.Ythomnpgpbhpojaa.Mem Go.Proofs.Ythomnpgpbhpojaa.Sl Go.Proofs.Ythomnpgpbhpojaa.Scc Go.Proofs.Ythomnpgpbhpojaa.Tj Go.Proofs.YthomnpgpbhpojaaW.PrintWords Go.Proofs.YthomnpgpbhpojaaW.PrintLast
attribute [local go_sem ↓] Go.wp_at_zero Go.wp_at_succ
set_option linter.unusedSimpArgs false
set_option linter.unusedVariables false

def fstB (comp : List Nat) (i j : Nat) : Bool := (comp.take j).all fun c => decide (c ≠ comp.getD i 0)
theorem fstB_succ {comp : List Nat} {i j : Nat} (h : j < comp.length) : fstB comp i (j + 1) = (fstB comp i j && decide (comp.getD j 0 ≠ comp.getD i 0)) := by
  unfold fstB
  rw [List.take_add_one, List.getElem?_eq_getElem h, List.all_append]
  have : comp.getD j 0 = comp[j] := by rw [List.getD_eq_getElem?_getD, List.getElem?_eq_getElem h]; rfl
  rw [this]
  simp
theorem grpZ_up {comp : List Nat} {sl : List Int} {c j : Nat} (h1 : j < comp.length) (h2 : j < sl.length) : grpZ (comp.take (j + 1)) (sl.take (j + 1)) c = grpZ (comp.take j) (sl.take j) c ++ (if comp.getD j 0 = c then [sl.getD j 0] else []) := by
  have e1 : comp.getD j 0 = comp[j] := by rw [List.getD_eq_getElem?_getD, List.getElem?_eq_getElem h1]; rfl
  have e2 : sl.getD j 0 = sl[j] := by rw [List.getD_eq_getElem?_getD, List.getElem?_eq_getElem h2]; rfl
  rw [e1, e2]
  unfold grpZ
  rw [List.take_succ_eq_append_getElem h1, List.take_succ_eq_append_getElem h2, List.zip_append (by rw [List.length_take, List.length_take]; omega), List.filter_append, List.map_append]
  congr 1
  by_cases h : comp[j] = c
  · rw [if_pos h]; simp [h]
  · rw [if_neg h]; simp [h]
theorem grpZ_none {comp : List Nat} {sl : List Int} {i : Nat} (h : fstB comp i i = true) : grpZ (comp.take i) (sl.take i) (comp.getD i 0) = [] := by
  unfold grpZ
  rw [List.filter_eq_nil_iff.2 ?_]
  · rfl
  · intro p hp
    have h1 : p.1 ∈ comp.take i := (List.of_mem_zip hp).1
    have h2 := List.all_eq_true.1 h p.1 h1
    simpa using h2
theorem fstB_iff {comp : List Nat} {i : Nat} : fstB comp i i = true ↔ comp.getD i 0 ∉ comp.take i := by
  unfold fstB
  rw [List.all_eq_true]
  exact ⟨fun h hm => by have := h _ hm; simp at this, fun h c hc => by rw [decide_eq_true_eq]; exact fun e => h (e ▸ hc)⟩
theorem fo_next : ∀ (l : List Nat) (k m i q : Nat), fo l k = some m → fo (l.take i) k = some q → (h : i < l.length) → (fo (l.take (i + 1)) k = some (if l[i] < q then q else q + 1)) ∧ l[i] ≤ q ∧ (l[i] < q ↔ l[i] < k ∨ l[i] ∈ l.take i)
  | [], k, m, i, q, h, hq, hi => by simp at hi
  | c :: r, k, m, 0, q, h, hq, hi => by
    rw [List.take_zero, fo] at hq
    cases hq
    rw [fo] at h
    rw [List.take_succ_cons, List.take_zero, List.getElem_cons_zero, fo]
    split at h
    · rename_i hc
      rw [if_pos hc, if_pos hc]
      exact ⟨rfl, by omega, by simp⟩
    · rename_i hc
      rw [if_neg hc, if_neg hc]
      split at h
      · rename_i hk
        rw [if_pos hk]
        exact ⟨rfl, by omega, by simp⟩
      · cases h
  | c :: r, k, m, i + 1, q, h, hq, hi => by
    rw [fo] at h
    rw [List.take_succ_cons, fo] at hq
    rw [List.take_succ_cons (i := i + 1), List.getElem_cons_succ, fo]
    have hi' : i < r.length := by simpa using hi
    split at h
    · rename_i hc
      rw [if_pos hc] at hq ⊢
      obtain ⟨a, b, d⟩ := fo_next r k m i q h hq hi'
      refine ⟨a, b, d.trans ⟨fun x => x.imp id (fun y => by rw [List.take_succ_cons]; exact List.mem_cons_of_mem _ y), fun x => ?_⟩⟩
      rcases x with x | x
      · exact .inl x
      · rw [List.take_succ_cons] at x
        rcases List.mem_cons.1 x with y | y
        · left; omega
        · exact .inr y
    · rename_i hc
      rw [if_neg hc] at hq ⊢
      split at h
      · rename_i hk
        rw [if_pos hk] at hq ⊢
        obtain ⟨a, b, d⟩ := fo_next r (k + 1) m i q h hq hi'
        refine ⟨a, b, d.trans ⟨fun x => ?_, fun x => ?_⟩⟩
        · rcases x with x | x
          · rcases Nat.lt_or_ge r[i] k with y | y
            · exact .inl y
            · right; rw [List.take_succ_cons]; exact List.mem_cons.2 (.inl (by omega))
          · right; rw [List.take_succ_cons]; exact List.mem_cons_of_mem _ x
        · rcases x with x | x
          · left; omega
          · rw [List.take_succ_cons] at x
            rcases List.mem_cons.1 x with y | y
            · left; omega
            · exact .inr y
      · cases h


theorem mut_iff {n m : Nat} {E : Nat → Nat → Prop} {comp : List Nat} (h : CompOf n E comp m) {i j : Nat} (hi : i < n) (hj : j < n) : (rB E i j && rB E j i) = decide (comp.getD j 0 = comp.getD i 0) := by
  rw [Bool.eq_iff_iff, Bool.and_eq_true, rB_iff, rB_iff, decide_eq_true_eq, ← h.2.2 i j hi hj]
  exact ⟨Eq.symm, Eq.symm⟩

def OSt (w1 : World) (comp : List Nat) (sl : List Int) (i q : Nat) (v4 : Value) (W : World) : Prop :=
  fo (comp.take i) 0 = some q ∧ ∃ vals, One w1 25 1 v4 q vals W ∧ Rz W w1.heap.size vals ((List.range q).map (grpZ comp sl))


set_option maxHeartbeats 8000000 in
set_option maxRecDepth 100000 in
theorem ofR_calls {gw : Int} (w : World) (A AE : Option Addr) (cg ce m : Nat) (sl : List Int) (R : List (Int × Int)) (comp : List Nat) (hv : RdI w A sl) (he : RdE w AE R) (hs : sl.Pairwise (· < ·)) (hgood : good sl R = true) (hco : CompOf sl.length (PE sl R) comp m) (hl : sl.length ≤ 1000) (hr : R.length ≤ 100000) :
    Calls Try.prog 29 #[gV A sl.length cg (.slice AE R.length ce) gw] w fun e w' => ∃ A' c', e = .returned (.slice A' m c') ∧ RdL w' A' (ofL comp sl m) ∧ Below w.heap.size w w' := by
  obtain ⟨i1, hi1, hz1, hs1, hy1⟩ := info_parts info_int
  obtain ⟨i3, hi3, hz3, hs3, hy3⟩ := info_parts info_ints
  obtain ⟨n, hn⟩ : ∃ n, sl.length = n := ⟨_, rfl⟩
  have hclc := fun (W : World) (hW : Below w.heap.size w W) => closure_calls (gw := gw) W A AE cg ce sl R (hv.below hW) (he.below hW) hs hgood hl hr
  rw [hn] at hl hco hclc ⊢
  unfold gV at hclc ⊢
  have HV := Lib.hid hv
  have HN := Lib.hid hn
  have HCO := Lib.hid hco
  have HCL := Lib.hid hclc
  clear hv he hs hgood hn hco hclc
  go_enter Try.func29, Try.ntmps29
  go_wp2_with fail
  refine (HCL.out _ ((Below.refl _ _).alloc (Nat.le_refl _) _)).mono ?_
  clear HCL
  rintro e w1 ⟨A3, c3, rfl, hrc, hb1⟩
  have hsz : (w.alloc (.cells #[.slice A n cg, .slice AE R.length ce, .int .i64 0, .int .i64 gw] 28)).heap.size = w.heap.size + 1 := by simp
  have hgx : At w1 w.heap.size [.slice A n cg, .slice AE R.length ce, .int .i64 0, .int .i64 gw] 28 := (At.made (w := w) (a := #[.slice A n cg, .slice AE R.length ce, .int .i64 0, .int .i64 gw]) rfl rfl).below hb1 (by rw [hsz]; omega)
  have hbel : Below w.heap.size w w1 := ((Below.refl _ _).alloc (Nat.le_refl _) _).trans (hb1.mono (by rw [hsz]; omega))
  obtain ⟨gx, hgxe⟩ : ∃ gx, w.heap.size = gx := ⟨_, rfl⟩
  rw [hgxe] at hgx ⊢
  have q0 := hgx.cell 0 rfl
  have HGXE := Lib.hid hgxe
  have HX := Lib.hid hgx
  have HRC := Lib.hid hrc
  have HB1 := Lib.hid hbel
  have HV1 := Lib.hid (HV.out.below (hgxe ▸ hbel : Below w.heap.size w w1))
  clear hsz hgx hbel hrc hb1 HV
  go_wp2_with fail
  clear q0
  go_loopg [4, 5] n (fun kq v4 v5 w' => ∃ i q : Nat, v5 = .int .i64 (i : Int) ∧ Hid (i + kq = n ∧ q ≤ i ∧ OSt w1 comp sl i q v4 w'))
  case atStart => exact ⟨0, 0, rfl, Lib.hid ⟨by omega, Nat.le_refl _, rfl, [], One.start, Rz.nil⟩⟩
  case round =>
    obtain ⟨i, q, rfl, hI⟩ := hrel
    obtain ⟨hik, hqi, hfo, vals, hO, hZ⟩ := hI.out
    clear hI
    have q0 := (HX.out.below hO.b HX.out.lt).cell 0 rfl
    have hcn : comp.length = n := HCO.out.1
    by_cases hi : i < n
    · obtain ⟨k1, rfl⟩ : ∃ k1, gk = k1 + 1 := ⟨gk - 1, by omega⟩
      obtain ⟨b3, Bi, cBi, rfl, ci, cix⟩ := (HRC.out.below hO.b) i hi
      have hci : comp.getD i 0 = comp[i]'(by omega) := by rw [List.getD_eq_getElem?_getD, List.getElem?_eq_getElem (by omega)]; rfl
      obtain ⟨hf1, hf2, hf3⟩ := fo_next comp 0 m i q HCO.out.2.1 hfo (by omega)
      rw [← hci] at hf1 hf2 hf3
      have HF1 := Lib.hid hf1
      have HF2 := Lib.hid hf2
      have HF3 := Lib.hid hf3
      have HO := Lib.hid hO
      have HZ := Lib.hid hZ
      have HIK := Lib.hid (show i + (k1 + 1) = n ∧ q ≤ i ∧ i < n ∧ comp.length = n from ⟨hik, hqi, hi, hcn⟩)
      have HCI := Lib.hid ci
      have HCX := Lib.hid cix
      have HCR := Lib.hid (HRC.out.below hO.b)
      have HVW := Lib.hid (RdI.below HV1.out hO.b)
      have HXW := Lib.hid (HX.out.below hO.b HX.out.lt)
      have j0 : (0 : Int) ≤ (i : Int) := by omega
      have j1 : (i : Int) < (n : Int) := by omega
      have j2 : (n : Int) ≤ 1000 := by omega
      obtain ⟨wr0, hwr0⟩ : ∃ wr0, wr = wr0 := ⟨_, rfl⟩
      rw [hwr0] at HO HZ HCI HCX HCR HVW HXW q0 ⊢
      clear hf1 hf2 hf3 hfo hO hZ hik hqi hcn hci ci cix hwr0 hi
      go_wp2_with fail
      go_loopg [6, 7] i (fun kq v6 v7 w' => ∃ j : Nat, v7 = .int .i64 (j : Int) ∧ v6 = .bool (fstB comp i j) ∧ Hid (j + kq = i ∧ w' = wr0))
      case atStart => exact ⟨0, rfl, rfl, Lib.hid ⟨by omega, rfl⟩⟩
      case round =>
        obtain ⟨j, rfl, rfl, hI⟩ := hrel
        obtain ⟨hji, hw⟩ := hI.out
        subst hw
        clear hI
        by_cases hj : j < i
        · obtain ⟨k2, rfl⟩ : ∃ k2, gk = k2 + 1 := ⟨gk - 1, by omega⟩
          have hin := HIK.out.2.2.1
          obtain ⟨_, Bj, cBj, hbe, cj, cjx⟩ := HCR.out j (by omega)
          cases hbe
          have ci := HCI.out
          have x1 := HCX.out j (by omega)
          have x2 := cjx i hin
          have hmu := mut_iff HCO.out hin (show j < n by omega)
          have hsu := fstB_succ (comp := comp) (i := i) (j := j) (by have := HIK.out.2.2.2; omega)
          obtain ⟨r1, hr1⟩ : ∃ r1, rB (PE sl R) i j = r1 := ⟨_, rfl⟩
          obtain ⟨r2, hr2⟩ : ∃ r2, rB (PE sl R) j i = r2 := ⟨_, rfl⟩
          obtain ⟨fb, hfb⟩ : ∃ fb, fstB comp i j = fb := ⟨_, rfl⟩
          rw [hr1] at x1 hmu
          rw [hr2] at x2 hmu
          rw [hfb] at hsu ⊢
          have hnew : fstB comp i (j + 1) = (fb && !(r1 && r2)) := by rw [hsu, hmu]; simp
          have HNW := Lib.hid hnew
          have HJ := Lib.hid hji
          have k0 : (0 : Int) ≤ (j : Int) := by omega
          have k1' : (j : Int) < (i : Int) := by omega
          have k3 : (j : Int) < (n : Int) := by omega
          clear hmu hsu hnew hr1 hr2 hfb cjx hji hj
          cases fb <;> cases r1 <;> cases r2
          all_goals go_wp2
          all_goals go_roundg k2
          all_goals first
            | (have := HJ.out; omega)
            | exact ⟨j + 1, by go_num, by rw [HNW.out]; rfl, Lib.hid ⟨by have := HJ.out; omega, rfl⟩⟩
        · obtain rfl : i = j := by omega
          clear hji hj
          cases hfb : fstB comp i i with
          | false =>
            have hin : comp.getD i 0 < q := HF3.out.2 (.inr (Classical.byContradiction fun h => by rw [fstB_iff.2 h] at hfb; cases hfb))
            have hfo := HF1.out
            rw [if_pos hin] at hfo
            have HFO := Lib.hid hfo
            clear hfb hin hfo
            go_wp2
            go_roundg k1
            case measure => have := HIK.out.1; omega
            case rel => exact ⟨i + 1, q, by go_num, Lib.hid ⟨by have := HIK.out.1; omega, by have := HIK.out.2.1; omega, HFO.out, vals, HO.out, HZ.out⟩⟩
          | true =>
            have hni := fstB_iff.1 hfb
            have hnq : ¬ comp.getD i 0 < q := fun h => by
              rcases HF3.out.1 h with h | h
              · omega
              · exact hni h
            have hq : comp.getD i 0 = q := by have := HF2.out; omega
            have hfo := HF1.out
            rw [if_neg hnq] at hfo
            have hg0 := grpZ_none (sl := sl) hfb
            rw [hq] at hg0
            have hmu : ∀ j, j < n → (rB (PE sl R) i j && rB (PE sl R) j i) = decide (comp.getD j 0 = q) := fun j hj => by rw [mut_iff HCO.out HIK.out.2.2.1 hj, hq]
            have HFO := Lib.hid hfo
            have HG0 := Lib.hid hg0
            have HMU := Lib.hid hmu
            clear hfb hni hnq hq hfo hg0 hmu HF1 HF2 HF3
            obtain ⟨wz, hwz⟩ : ∃ wz, wr = wz := ⟨_, rfl⟩
            rw [hwz] at HO HZ HCI HCX HCR HVW HXW q0 ⊢
            clear hwz
            go_wp2_with fail
            go_loopg [8, 9] (n - i) (fun kq v8 v9 w' => ∃ j : Nat, v9 = .int .i64 (j : Int) ∧ Hid (j + kq = n ∧ i ≤ j ∧ One wz 3 1 v8 (grpZ (comp.take j) (sl.take j) q).length (ints (grpZ (comp.take j) (sl.take j) q)) w'))
            case atStart => exact ⟨i, rfl, Lib.hid ⟨by have := HIK.out.2.2.1; omega, Nat.le_refl _, by rw [HG0.out]; exact One.start⟩⟩
            case round =>
              clear q0
              obtain ⟨j, rfl, hI⟩ := hrel
              obtain ⟨hjk, hij, hO8⟩ := hI.out
              clear hI
              have q0 := (HXW.out.below hO8.b HXW.out.lt).cell 0 rfl
              by_cases hj : j < n
              · obtain ⟨k2, rfl⟩ : ∃ k2, gk = k2 + 1 := ⟨gk - 1, by omega⟩
                obtain ⟨_, Bj, cBj, hbe, cj, cjx⟩ := (HCR.out.below hO8.b) j hj
                cases hbe
                have ci := keep_at hO8.b HCI.out
                have x1 := keep_at hO8.b (HCX.out j hj)
                have x2 := cjx i HIK.out.2.2.1
                have hmu := HMU.out j hj
                obtain ⟨y, hy⟩ : ∃ y, sl[j]? = some y := ⟨_, List.getElem?_eq_getElem (by have := HN.out; omega)⟩
                obtain ⟨ba, rfl, cy⟩ := (RdI.below HVW.out hO8.b) j y hy
                have hup := grpZ_up (comp := comp) (sl := sl) (c := q) (j := j) (by have := HIK.out.2.2.2; omega) (by have := HN.out; omega)
                rw [show sl.getD j 0 = y by rw [List.getD_eq_getElem?_getD, hy]; rfl] at hup
                obtain ⟨r1, hr1⟩ : ∃ r1, rB (PE sl R) i j = r1 := ⟨_, rfl⟩
                obtain ⟨r2, hr2⟩ : ∃ r2, rB (PE sl R) j i = r2 := ⟨_, rfl⟩
                rw [hr1] at x1 hmu
                rw [hr2] at x2 hmu
                obtain ⟨g8, hg8⟩ : ∃ g8, grpZ (comp.take j) (sl.take j) q = g8 := ⟨_, rfl⟩
                have hg8n : g8.length ≤ 1000 := by
                  rw [← hg8]
                  refine Nat.le_trans (grpZ_length _ _ _) ?_
                  rw [List.length_take]
                  omega
                rw [hg8] at hO8 hup
                have HO8 := Lib.hid hO8
                have HUP := Lib.hid hup
                have HJ := Lib.hid (show j + (k2 + 1) = n ∧ i ≤ j from ⟨hjk, hij⟩)
                have k0 : (0 : Int) ≤ (j : Int) := by omega
                have k1' : (j : Int) < (n : Int) := by omega
                by_cases hjq : comp.getD j 0 = q
                · rw [decide_eq_true hjq] at hmu
                  have hr12 := Bool.and_eq_true_iff.1 hmu
                  have HQ := Lib.hid hjq
                  rw [hr12.1] at x1
                  rw [hr12.2] at x2
                  clear hmu hr1 hr2 hr12 cjx hjk hij hj hjq hup hO8 hg8 hy r1 r2
                  go_wp2_with ((at_builtin; (refine wpList_append_any rfl (.tmp 70) (.tmp 76) 25 rfl wz.heap.size 3 i1 (.int .i64 0) 1 8 Try.underlying25 hi1 hz1 hs1 hy1 rfl (by omega) _ _ _ rfl (HO8.out.r.alloc (.cells #[.int .i64 y] 3)) _ rfl 1 [.int .i64 y] (RdV.lit wr #[.int .i64 y] 3 1 1 1 rfl (by simp [Value.oneCell'])) (by unfold maxLen; omega) (by omega) (by have := HO8.out.b.size; simp; omega) ?_; intro v8 w8 ho hg hn; have hone := (HO8.out.below ((Below.refl _ _).alloc (Nat.le_refl _) (.cells #[.int .i64 y] 3))).grow ho hg; have HO9 := Lib.hid hone; clear ho hg hn hone HO8)))
                  go_roundg k2
                  case measure => have := HJ.out.1; omega
                  case rel =>
                    refine ⟨j + 1, by go_num, Lib.hid ⟨by have := HJ.out.1; omega, by have := HJ.out.2; omega, ?_⟩⟩
                    rw [HUP.out, if_pos HQ.out, List.length_append, List.length_singleton, ← ints_snoc]
                    exact HO9.out
                · rw [decide_eq_false hjq] at hmu
                  have HQ := Lib.hid hjq
                  clear hr1 hr2 cjx hjk hij hj hjq hup hO8 hg8 hy
                  have HREL := Lib.hid (show One wz 3 1 u8 (grpZ (comp.take (j + 1)) (sl.take (j + 1)) q).length (ints (grpZ (comp.take (j + 1)) (sl.take (j + 1)) q)) wr by
                    rw [HUP.out, if_neg HQ.out, List.append_nil]; exact HO8.out)
                  cases r1 <;> cases r2
                  case true.true => cases hmu
                  all_goals clear hmu
                  all_goals go_wp2
                  all_goals go_roundg k2
                  all_goals first
                    | (have := HJ.out.1; omega)
                    | exact ⟨j + 1, by go_num, Lib.hid ⟨by have := HJ.out.1; omega, by have := HJ.out.2; omega, HREL.out⟩⟩
              · obtain rfl : n = j := by omega
                rw [List.take_of_length_le (by have := HIK.out.2.2.2; omega), List.take_of_length_le (by have := HN.out; omega)] at hO8
                obtain ⟨A8, c8, rfl⟩ := own_slice hO8.r
                have hzn := HZ.out.snoc hO8.b (Nat.le_refl _) HO.out.b.size hO8.r
                have hrg : (List.range q).map (grpZ comp sl) ++ [grpZ comp sl q] = (List.range (q + 1)).map (grpZ comp sl) := by rw [List.range_succ, List.map_append]; rfl
                rw [hrg] at hzn
                obtain ⟨n8, hn8⟩ : ∃ n8, (grpZ comp sl q).length = n8 := ⟨_, rfl⟩
                rw [hn8] at hzn ⊢
                have HZN := Lib.hid hzn
                have HON := Lib.hid (HO.out.below hO8.b)
                have hqn : q ≤ 1000 := by have := HIK.out.2.1; omega
                clear hO8 hzn hrg hn8 hjk hij hj
                go_wp2_with ((at_builtin; (refine wpList_append_any rfl (.tmp 78) (.tmp 80) 66 rfl w1.heap.size 25 i3 (.slice none 0 0) 1 24 Try.underlying66 hi3 hz3 hs3 hy3 rfl (by omega) _ _ _ rfl (HON.out.r.alloc (.cells #[.slice A8 n8 c8] 25)) _ rfl 1 [.slice A8 n8 c8] (RdV.lit wr #[.slice A8 n8 c8] 25 1 1 1 rfl (by simp [Value.oneCell'])) (by unfold maxLen; omega) (by omega) (by have := HON.out.b.size; simp; omega) ?_; intro v4 w4 ho hg hn; have hone := (HON.out.below ((Below.refl _ _).alloc (Nat.le_refl _) (.cells #[.slice A8 n8 c8] 25))).grow ho hg; have hzz := (HZN.out.below ((Below.refl _ _).alloc (Nat.le_refl _) (.cells #[.slice A8 n8 c8] 25))).other (HON.out.r.alloc (.cells #[.slice A8 n8 c8] 25)) (by decide) hg; have HO4 := Lib.hid hone; have HZ4 := Lib.hid hzz; clear ho hg hn hone hzz)))
                go_roundg k1
                case measure => have := HIK.out.1; omega
                case rel => exact ⟨i + 1, q + 1, by go_num, Lib.hid ⟨by have := HIK.out.1; omega, by have := HIK.out.2.1; omega, HFO.out, _, HO4.out, HZ4.out⟩⟩
    · obtain rfl : n = i := by omega
      rw [List.take_of_length_le (by omega)] at hfo
      obtain rfl : m = q := Option.some.inj (HCO.out.2.1.symm.trans hfo)
      obtain ⟨A', c', rfl⟩ := own_slice hO.r
      have hvl : vals.length = m := by have := hO.r.1; omega
      have hrd : RdL wr A' (ofL comp sl m) := by
        intro k r hk
        have hkm : k < m := by have := (List.getElem?_eq_some_iff.1 hk).1; simpa [ofL] using this
        obtain ⟨g, rfl, _, hcc⟩ := cell_flat hO.r (by omega)
        obtain ⟨u, hu⟩ : ∃ u, vals[k]? = some u := ⟨_, List.getElem?_eq_getElem (by omega)⟩
        obtain ⟨B, cB, rfl, hrb⟩ := hZ.rd hu hk
        exact ⟨g, B, cB, rfl, hcc k _ hu, hrb⟩
      have HRD := Lib.hid hrd
      have HO := Lib.hid hO
      clear hO hZ hvl hrd hfo hik hqi hcn hi
      go_wp2
      go_ret
      exact ⟨A', c', rfl, HRD.out, HB1.out.trans (HO.out.b.mono HB1.out.size)⟩

end Go.Proofs.Ythomnpgpbhpojaa.Lw

/- The reference's graph: At. -/
namespace Go.Proofs.Ythomnpgpbhpojaa.Cd
open Go Go.RowKit Go.MapKept Go.Proofs.Ythomnpgpbhpojaa.Mem Go.Proofs.Ythomnpgpbhpojaa.Sl Go.Proofs.Ythomnpgpbhpojaa.Lw Go.Proofs.Ythomnpgpbhpojaa.Pt Go.Proofs.YthomnpgpbhpojaaW.PrintWords Go.Proofs.YthomnpgpbhpojaaW.PrintLast
attribute [local go_sem ↓] Go.wp_at_zero Go.wp_at_succ
set_option linter.unusedSimpArgs false
set_option linter.unusedVariables false

def edg (es : List (Int × Int × Int)) : List Value := es.flatMap fun p => [.int .i64 p.1, .int .i64 p.2.1, .int .i64 p.2.2, .int .u32 0]
theorem edg_cons (p : Int × Int × Int) (es : List (Int × Int × Int)) : edg (p :: es) = .int .i64 p.1 :: .int .i64 p.2.1 :: .int .i64 p.2.2 :: .int .u32 0 :: edg es := rfl
theorem edg_append (a b : List (Int × Int × Int)) : edg (a ++ b) = edg a ++ edg b := by simp [edg]
theorem edg_length : ∀ es : List (Int × Int × Int), (edg es).length = es.length * 4
  | [] => rfl
  | p :: es => by rw [edg_cons]; simp only [List.length_cons, edg_length es]; omega
theorem edg_at : ∀ (es : List (Int × Int × Int)) (j : Nat) (e u v : Int), es[j]? = some (e, u, v) → (edg es)[j * 4]? = some (.int .i64 e) ∧ (edg es)[j * 4 + 1]? = some (.int .i64 u) ∧ (edg es)[j * 4 + 2]? = some (.int .i64 v) ∧ (edg es)[j * 4 + 3]? = some (.int .u32 0)
  | [], j, e, u, v, h => by simp at h
  | p :: es, 0, e, u, v, h => by
    cases h
    exact ⟨rfl, rfl, rfl, rfl⟩
  | p :: es, j + 1, e, u, v, h => by
    have := edg_at es j e u v (by simpa using h)
    rw [edg_cons, show (j + 1) * 4 = j * 4 + 1 + 1 + 1 + 1 by omega]
    simpa using this
def RdG (w : World) (A : Option Addr) (es : List (Int × Int × Int)) : Prop := ∀ (j : Nat) (e u v : Int), es[j]? = some (e, u, v) → ∃ b, A = some ⟨b, 0, none⟩ ∧ w.cell? ⟨b, j * 4, none⟩ = some (.int .i64 e) ∧ w.cell? ⟨b, j * 4 + 1, none⟩ = some (.int .i64 u) ∧ w.cell? ⟨b, j * 4 + 2, none⟩ = some (.int .i64 v)
theorem RdG.below {w w' : World} {A : Option Addr} {es : List (Int × Int × Int)} (h : RdG w A es) (hb : Below w.heap.size w w') : RdG w' A es := fun j e u v hx => by
  obtain ⟨b, h1, h2, h3, h4⟩ := h j e u v hx
  exact ⟨b, h1, keep_at hb h2, keep_at hb h3, keep_at hb h4⟩
def atI (es : List (Int × Int × Int)) (e : Int) : Int := match es.findIdx? (fun p => decide (p.1 = e)) with | some i => (i : Int) | none => -1
theorem atI_yes {es : List (Int × Int × Int)} {e : Int} {i : Nat} {p : Int × Int × Int} (hp : es[i]? = some p) (he : p.1 = e) (hn : ∀ j q, j < i → es[j]? = some q → q.1 ≠ e) : atI es e = i := by
  have hi := (List.getElem?_eq_some_iff.1 hp).1
  have : es.findIdx? (fun p => decide (p.1 = e)) = some i := by
    rw [List.findIdx?_eq_some_iff_getElem]
    refine ⟨hi, ?_, fun j hj => ?_⟩
    · rw [(List.getElem?_eq_some_iff.1 hp).2]
      simpa using he
    · have := hn j _ hj (List.getElem?_eq_getElem (by omega))
      simpa using this
  unfold atI
  rw [this]
theorem atI_no {es : List (Int × Int × Int)} {e : Int} (hn : ∀ p ∈ es, p.1 ≠ e) : atI es e = -1 := by
  have : es.findIdx? (fun p => decide (p.1 = e)) = none := by
    rw [List.findIdx?_eq_none_iff]
    intro p hp
    simpa using hn p hp
  unfold atI
  rw [this]

set_option maxHeartbeats 8000000 in
set_option maxRecDepth 100000 in
theorem at_calls {gw : Int} (w : World) (A AE : Option Addr) (n cg ce : Nat) (es : List (Int × Int × Int)) (e : Int) (he : RdG w AE es) (hr : es.length ≤ 100000) :
    Calls Try.prog 8 #[gV A n cg (.slice AE es.length ce) gw, .int .i64 e] w fun en w' => en = .returned (.int .i64 (atI es e)) ∧ Below w.heap.size w w' := by
  obtain ⟨ans, hans⟩ : ∃ ans, atI es e = ans := ⟨_, rfl⟩
  rw [hans]
  unfold gV
  have HE := Lib.hid he
  have HANS := Lib.hid hans
  clear he hans
  go_enter Try.func8, Try.ntmps8
  go_wp2_with fail
  refine gen_loopw (fun W => At W w.heap.size [.slice A n cg, .slice AE es.length ce, .int .i64 0, .int .i64 gw] 28 ∧ Below w.heap.size w W) ?_ ?_
  · exact ⟨At.made rfl rfl, (Below.refl _ _).alloc (Nat.le_refl _) _⟩
  obtain ⟨gx, hgx⟩ : ∃ gx, w.heap.size = gx := ⟨_, rfl⟩
  rw [hgx]
  rintro w3 ⟨hat, hb⟩
  rw [← hgx] at hb
  have q1 := hat.cell 1 rfl
  have HB := Lib.hid hb
  clear hat hb hgx
  go_loopg [5] es.length (fun kq v5 w' => ∃ j : Nat, v5 = .int .i64 (j : Int) ∧ Hid (j + kq = es.length ∧ w' = w3 ∧ ∀ t p, t < j → es[t]? = some p → p.1 ≠ e))
  case atStart => exact ⟨0, rfl, Lib.hid ⟨by omega, rfl, fun t p h => by omega⟩⟩
  case round =>
    obtain ⟨j, rfl, hI⟩ := hrel
    obtain ⟨hjk, rfl, hall⟩ := hI.out
    clear hI
    by_cases hj : j < es.length
    · obtain ⟨k1, rfl⟩ : ∃ k1, gk = k1 + 1 := ⟨gk - 1, by omega⟩
      obtain ⟨⟨a, b, c⟩, hxx⟩ : ∃ x, es[j] = x := ⟨_, rfl⟩
      have hx : es[j]? = some (a, b, c) := by rw [List.getElem?_eq_getElem hj, hxx]
      obtain ⟨be, rfl, qe, -, -⟩ := (HE.out.below HB.out) j a b c hx
      have j0 : (0 : Int) ≤ (j : Int) := by omega
      have j1 : (j : Int) < (es.length : Int) := by omega
      have j2 : (es.length : Int) ≤ 100000 := by omega
      by_cases hae : a = e
      · subst hae
        have HQ := Lib.hid (show ans = (j : Int) from by rw [← HANS.out, atI_yes hx rfl hall])
        clear hx hxx hall hjk hj
        go_wp2
        go_ret
        exact ⟨by rw [HQ.out]; rfl, HB.out⟩
      · have HN := Lib.hid (show ∀ t p, t < j + 1 → es[t]? = some p → p.1 ≠ e from fun t p ht hp => by
          rcases Nat.lt_or_ge t j with h | h
          · exact hall t p h hp
          · obtain rfl : t = j := by omega
            rw [hx] at hp
            cases hp
            exact hae)
        clear hx hxx hall hj
        go_wp2
        go_roundg k1
        case measure => omega
        case rel => exact ⟨j + 1, by go_num, Lib.hid ⟨by omega, rfl, HN.out⟩⟩
    · obtain rfl : j = es.length := by omega
      have HQ := Lib.hid (show ans = -1 from by
        rw [← HANS.out]
        exact atI_no fun p hp => by
          obtain ⟨t, ht, e1⟩ := List.getElem_of_mem hp
          exact hall t p ht (by rw [List.getElem?_eq_getElem ht, e1]))
      have j2 : (es.length : Int) ≤ 100000 := by omega
      clear hall hjk hj
      go_wp2
      go_ret
      exact ⟨by rw [HQ.out]; rfl, HB.out⟩
end Go.Proofs.Ythomnpgpbhpojaa.Cd
