/- The references' Of, walked. -/
import Derived.Test.YtgihncjllelonaaHa29
import Derived.Test.YtgihncjllelonaaHa27
import Derived.Test.YtgihncjllelonaaHa25
namespace Go.Proofs.Ytgihncjllelonaa.Lw
open Go Go.RowKit Go.Proofs.Ytgihncjllelonaa.Mem Go.Proofs.Ytgihncjllelonaa.Sl Go.Proofs.Ytgihncjllelonaa.Scc Go.Proofs.Ytgihncjllelonaa.Tj Go.Proofs.YtgihncjllelonaaW.PrintWords Go.Proofs.YtgihncjllelonaaW.PrintLast
attribute [local go_sem ↓] Go.wp_at_zero Go.wp_at_succ
set_option linter.unusedSimpArgs false
set_option linter.unusedVariables false

def fstB (comp : List Nat) (i j : Nat) : Bool := (comp.take j).all fun c => decide (c ≠ comp.getD i 0)
theorem fstB_succ {comp : List Nat} {i j : Nat} (h : j < comp.length) : fstB comp i (j + 1) = (fstB comp i j && decide (comp.getD j 0 ≠ comp.getD i 0)) := by
  unfold fstB
  rw [List.take_add_one, List.getElem?_eq_getElem h, List.all_append]
  have : comp.getD j 0 = comp[j] := by rw [List.getD_eq_getElem?_getD, List.getElem?_eq_getElem h]; rfl
  rw [this]
  simp
theorem grpZ_up {comp : List Nat} {sl : List Int} {c j : Nat} (h1 : j < comp.length) (h2 : j < sl.length) : grpZ (comp.take (j + 1)) (sl.take (j + 1)) c = grpZ (comp.take j) (sl.take j) c ++ (if comp.getD j 0 = c then [sl.getD j 0] else []) := by
  have e1 : comp.getD j 0 = comp[j] := by rw [List.getD_eq_getElem?_getD, List.getElem?_eq_getElem h1]; rfl
  have e2 : sl.getD j 0 = sl[j] := by rw [List.getD_eq_getElem?_getD, List.getElem?_eq_getElem h2]; rfl
  rw [e1, e2]
  unfold grpZ
  rw [List.take_succ_eq_append_getElem h1, List.take_succ_eq_append_getElem h2, List.zip_append (by rw [List.length_take, List.length_take]; omega), List.filter_append, List.map_append]
  congr 1
  by_cases h : comp[j] = c
  · rw [if_pos h]; simp [h]
  · rw [if_neg h]; simp [h]
theorem grpZ_none {comp : List Nat} {sl : List Int} {i : Nat} (h : fstB comp i i = true) : grpZ (comp.take i) (sl.take i) (comp.getD i 0) = [] := by
  unfold grpZ
  rw [List.filter_eq_nil_iff.2 ?_]
  · rfl
  · intro p hp
    have h1 : p.1 ∈ comp.take i := (List.of_mem_zip hp).1
    have h2 := List.all_eq_true.1 h p.1 h1
    simpa using h2
theorem fstB_iff {comp : List Nat} {i : Nat} : fstB comp i i = true ↔ comp.getD i 0 ∉ comp.take i := by
  unfold fstB
  rw [List.all_eq_true]
  exact ⟨fun h hm => by have := h _ hm; simp at this, fun h c hc => by rw [decide_eq_true_eq]; exact fun e => h (e ▸ hc)⟩
theorem fo_take : ∀ (l : List Nat) (k m i : Nat), fo l k = some m → ∃ q, fo (l.take i) k = some q
  | [], k, m, i, h => ⟨k, by rw [List.take_nil]; rfl⟩
  | c :: r, k, m, 0, h => ⟨k, rfl⟩
  | c :: r, k, m, i + 1, h => by
    rw [fo] at h
    rw [List.take_succ_cons, fo]
    split at h
    · rename_i hc
      rw [if_pos hc]
      exact fo_take r k m i h
    · rename_i hc
      rw [if_neg hc]
      split at h
      · rename_i hk
        rw [if_pos hk]
        exact fo_take r (k + 1) m i h
      · cases h
theorem fo_next : ∀ (l : List Nat) (k m i q : Nat), fo l k = some m → fo (l.take i) k = some q → (h : i < l.length) → (fo (l.take (i + 1)) k = some (if l[i] < q then q else q + 1)) ∧ l[i] ≤ q ∧ (l[i] < q ↔ l[i] < k ∨ l[i] ∈ l.take i)
  | [], k, m, i, q, h, hq, hi => by simp at hi
  | c :: r, k, m, 0, q, h, hq, hi => by
    rw [List.take_zero, fo] at hq
    cases hq
    rw [fo] at h
    rw [List.take_succ_cons, List.take_zero, List.getElem_cons_zero, fo]
    split at h
    · rename_i hc
      rw [if_pos hc, if_pos hc]
      exact ⟨rfl, by omega, by simp⟩
    · rename_i hc
      rw [if_neg hc, if_neg hc]
      split at h
      · rename_i hk
        rw [if_pos hk]
        exact ⟨rfl, by omega, by simp⟩
      · cases h
  | c :: r, k, m, i + 1, q, h, hq, hi => by
    rw [fo] at h
    rw [List.take_succ_cons, fo] at hq
    rw [List.take_succ_cons (i := i + 1), List.getElem_cons_succ, fo]
    have hi' : i < r.length := by simpa using hi
    split at h
    · rename_i hc
      rw [if_pos hc] at hq ⊢
      obtain ⟨a, b, d⟩ := fo_next r k m i q h hq hi'
      refine ⟨a, b, d.trans ⟨fun x => x.imp id (fun y => by rw [List.take_succ_cons]; exact List.mem_cons_of_mem _ y), fun x => ?_⟩⟩
      rcases x with x | x
      · exact .inl x
      · rw [List.take_succ_cons] at x
        rcases List.mem_cons.1 x with y | y
        · left; omega
        · exact .inr y
    · rename_i hc
      rw [if_neg hc] at hq ⊢
      split at h
      · rename_i hk
        rw [if_pos hk] at hq ⊢
        obtain ⟨a, b, d⟩ := fo_next r (k + 1) m i q h hq hi'
        refine ⟨a, b, d.trans ⟨fun x => ?_, fun x => ?_⟩⟩
        · rcases x with x | x
          · rcases Nat.lt_or_ge r[i] k with y | y
            · exact .inl y
            · right; rw [List.take_succ_cons]; exact List.mem_cons.2 (.inl (by omega))
          · right; rw [List.take_succ_cons]; exact List.mem_cons_of_mem _ x
        · rcases x with x | x
          · left; omega
          · rw [List.take_succ_cons] at x
            rcases List.mem_cons.1 x with y | y
            · left; omega
            · exact .inr y
      · cases h


theorem mut_iff {n m : Nat} {E : Nat → Nat → Prop} {comp : List Nat} (h : CompOf n E comp m) {i j : Nat} (hi : i < n) (hj : j < n) : (rB E i j && rB E j i) = decide (comp.getD j 0 = comp.getD i 0) := by
  rw [Bool.eq_iff_iff, Bool.and_eq_true, rB_iff, rB_iff, decide_eq_true_eq, ← h.2.2 i j hi hj]
  exact ⟨Eq.symm, Eq.symm⟩

def OSt (w1 : World) (comp : List Nat) (sl : List Int) (i q : Nat) (v4 : Value) (W : World) : Prop :=
  fo (comp.take i) 0 = some q ∧ ∃ vals, One w1 22 1 v4 q vals W ∧ Rz W w1.heap.size vals ((List.range q).map (grpZ comp sl))


set_option maxHeartbeats 8000000 in
set_option maxRecDepth 100000 in
theorem ofR_calls {gw : Int} (w : World) (A AE : Option Addr) (cg ce m : Nat) (sl : List Int) (R : List (Int × Int)) (comp : List Nat) (hv : RdI w A sl) (he : RdE w AE R) (hs : sl.Pairwise (· < ·)) (hgood : good sl R = true) (hco : CompOf sl.length (PE sl R) comp m) (hl : sl.length ≤ 1000) (hr : R.length ≤ 100000) :
    Calls Try.prog 28 #[gV A sl.length cg (.slice AE R.length ce) gw] w fun e w' => ∃ A' c', e = .returned (.slice A' m c') ∧ RdL w' A' (ofL comp sl m) ∧ Below w.heap.size w w' := by
  obtain ⟨i1, hi1, hz1, hs1, hy1⟩ := info_parts info_int
  obtain ⟨i3, hi3, hz3, hs3, hy3⟩ := info_parts info_ints
  obtain ⟨n, hn⟩ : ∃ n, sl.length = n := ⟨_, rfl⟩
  have hclc := fun (W : World) (hW : Below w.heap.size w W) => closure_calls (gw := gw) W A AE cg ce sl R (hv.below hW) (he.below hW) hs hgood hl hr
  rw [hn] at hl hco hclc ⊢
  unfold gV at hclc ⊢
  have HV := Lib.hid hv
  have HN := Lib.hid hn
  have HCO := Lib.hid hco
  have HCL := Lib.hid hclc
  clear hv he hs hgood hn hco hclc
  go_enter Try.func28, Try.ntmps28
  go_wp2_with fail
  refine (HCL.out _ ((Below.refl _ _).alloc (Nat.le_refl _) _)).mono ?_
  clear HCL
  rintro e w1 ⟨A3, c3, rfl, hrc, hb1⟩
  have hsz : (w.alloc (.cells #[.slice A n cg, .slice AE R.length ce, .int .i64 0, .int .i64 gw] 35)).heap.size = w.heap.size + 1 := by simp
  have hgx : At w1 w.heap.size [.slice A n cg, .slice AE R.length ce, .int .i64 0, .int .i64 gw] 35 := (At.made (w := w) (a := #[.slice A n cg, .slice AE R.length ce, .int .i64 0, .int .i64 gw]) rfl rfl).below hb1 (by rw [hsz]; omega)
  have hbel : Below w.heap.size w w1 := ((Below.refl _ _).alloc (Nat.le_refl _) _).trans (hb1.mono (by rw [hsz]; omega))
  obtain ⟨gx, hgxe⟩ : ∃ gx, w.heap.size = gx := ⟨_, rfl⟩
  rw [hgxe] at hgx ⊢
  have q0 := hgx.cell 0 rfl
  have HGXE := Lib.hid hgxe
  have HX := Lib.hid hgx
  have HRC := Lib.hid hrc
  have HB1 := Lib.hid hbel
  have HV1 := Lib.hid (HV.out.below (hgxe ▸ hbel : Below w.heap.size w w1))
  clear hsz hgx hbel hrc hb1 HV
  go_wp2_with fail
  clear q0
  go_loopg [4, 5] n (fun kq v4 v5 w' => ∃ i q : Nat, v5 = .int .i64 (i : Int) ∧ Hid (i + kq = n ∧ q ≤ i ∧ OSt w1 comp sl i q v4 w'))
  case atStart => exact ⟨0, 0, rfl, Lib.hid ⟨by omega, Nat.le_refl _, rfl, [], One.start, Rz.nil⟩⟩
  case round =>
    obtain ⟨i, q, rfl, hI⟩ := hrel
    obtain ⟨hik, hqi, hfo, vals, hO, hZ⟩ := hI.out
    clear hI
    have q0 := (HX.out.below hO.b HX.out.lt).cell 0 rfl
    have hcn : comp.length = n := HCO.out.1
    by_cases hi : i < n
    · obtain ⟨k1, rfl⟩ : ∃ k1, gk = k1 + 1 := ⟨gk - 1, by omega⟩
      obtain ⟨b3, Bi, cBi, rfl, ci, cix⟩ := (HRC.out.below hO.b) i hi
      have hci : comp.getD i 0 = comp[i]'(by omega) := by rw [List.getD_eq_getElem?_getD, List.getElem?_eq_getElem (by omega)]; rfl
      obtain ⟨hf1, hf2, hf3⟩ := fo_next comp 0 m i q HCO.out.2.1 hfo (by omega)
      rw [← hci] at hf1 hf2 hf3
      have HF1 := Lib.hid hf1
      have HF2 := Lib.hid hf2
      have HF3 := Lib.hid hf3
      have HO := Lib.hid hO
      have HZ := Lib.hid hZ
      have HIK := Lib.hid (show i + (k1 + 1) = n ∧ q ≤ i ∧ i < n ∧ comp.length = n from ⟨hik, hqi, hi, hcn⟩)
      have HCI := Lib.hid ci
      have HCX := Lib.hid cix
      have HCR := Lib.hid (HRC.out.below hO.b)
      have HVW := Lib.hid (RdI.below HV1.out hO.b)
      have HXW := Lib.hid (HX.out.below hO.b HX.out.lt)
      have j0 : (0 : Int) ≤ (i : Int) := by omega
      have j1 : (i : Int) < (n : Int) := by omega
      have j2 : (n : Int) ≤ 1000 := by omega
      obtain ⟨wr0, hwr0⟩ : ∃ wr0, wr = wr0 := ⟨_, rfl⟩
      rw [hwr0] at HO HZ HCI HCX HCR HVW HXW q0 ⊢
      clear hf1 hf2 hf3 hfo hO hZ hik hqi hcn hci ci cix hwr0 hi
      go_wp2_with fail
      go_loopg [6, 7] i (fun kq v6 v7 w' => ∃ j : Nat, v7 = .int .i64 (j : Int) ∧ v6 = .bool (fstB comp i j) ∧ Hid (j + kq = i ∧ w' = wr0))
      case atStart => exact ⟨0, rfl, rfl, Lib.hid ⟨by omega, rfl⟩⟩
      case round =>
        obtain ⟨j, rfl, rfl, hI⟩ := hrel
        obtain ⟨hji, hw⟩ := hI.out
        subst hw
        clear hI
        by_cases hj : j < i
        · obtain ⟨k2, rfl⟩ : ∃ k2, gk = k2 + 1 := ⟨gk - 1, by omega⟩
          have hin := HIK.out.2.2.1
          obtain ⟨_, Bj, cBj, hbe, cj, cjx⟩ := HCR.out j (by omega)
          cases hbe
          have ci := HCI.out
          have x1 := HCX.out j (by omega)
          have x2 := cjx i hin
          have hmu := mut_iff HCO.out hin (show j < n by omega)
          have hsu := fstB_succ (comp := comp) (i := i) (j := j) (by have := HIK.out.2.2.2; omega)
          obtain ⟨r1, hr1⟩ : ∃ r1, rB (PE sl R) i j = r1 := ⟨_, rfl⟩
          obtain ⟨r2, hr2⟩ : ∃ r2, rB (PE sl R) j i = r2 := ⟨_, rfl⟩
          obtain ⟨fb, hfb⟩ : ∃ fb, fstB comp i j = fb := ⟨_, rfl⟩
          rw [hr1] at x1 hmu
          rw [hr2] at x2 hmu
          rw [hfb] at hsu ⊢
          have hnew : fstB comp i (j + 1) = (fb && !(r1 && r2)) := by rw [hsu, hmu]; simp
          have HNW := Lib.hid hnew
          have HJ := Lib.hid hji
          have k0 : (0 : Int) ≤ (j : Int) := by omega
          have k1' : (j : Int) < (i : Int) := by omega
          have k3 : (j : Int) < (n : Int) := by omega
          clear hmu hsu hnew hr1 hr2 hfb cjx hji hj
          cases fb <;> cases r1 <;> cases r2
          all_goals go_wp2
          all_goals go_roundg k2
          all_goals first
            | (have := HJ.out; omega)
            | exact ⟨j + 1, by go_num, by rw [HNW.out]; rfl, Lib.hid ⟨by have := HJ.out; omega, rfl⟩⟩
        · obtain rfl : i = j := by omega
          clear hji hj
          cases hfb : fstB comp i i with
          | false =>
            have hin : comp.getD i 0 < q := HF3.out.2 (.inr (Classical.byContradiction fun h => by rw [fstB_iff.2 h] at hfb; cases hfb))
            have hfo := HF1.out
            rw [if_pos hin] at hfo
            have HFO := Lib.hid hfo
            clear hfb hin hfo
            go_wp2
            go_roundg k1
            case measure => have := HIK.out.1; omega
            case rel => exact ⟨i + 1, q, by go_num, Lib.hid ⟨by have := HIK.out.1; omega, by have := HIK.out.2.1; omega, HFO.out, vals, HO.out, HZ.out⟩⟩
          | true =>
            have hni := fstB_iff.1 hfb
            have hnq : ¬ comp.getD i 0 < q := fun h => by
              rcases HF3.out.1 h with h | h
              · omega
              · exact hni h
            have hq : comp.getD i 0 = q := by have := HF2.out; omega
            have hfo := HF1.out
            rw [if_neg hnq] at hfo
            have hg0 := grpZ_none (sl := sl) hfb
            rw [hq] at hg0
            have hmu : ∀ j, j < n → (rB (PE sl R) i j && rB (PE sl R) j i) = decide (comp.getD j 0 = q) := fun j hj => by rw [mut_iff HCO.out HIK.out.2.2.1 hj, hq]
            have HFO := Lib.hid hfo
            have HG0 := Lib.hid hg0
            have HMU := Lib.hid hmu
            clear hfb hni hnq hq hfo hg0 hmu HF1 HF2 HF3
            obtain ⟨wz, hwz⟩ : ∃ wz, wr = wz := ⟨_, rfl⟩
            rw [hwz] at HO HZ HCI HCX HCR HVW HXW q0 ⊢
            clear hwz
            go_wp2_with fail
            go_loopg [8, 9] (n - i) (fun kq v8 v9 w' => ∃ j : Nat, v9 = .int .i64 (j : Int) ∧ Hid (j + kq = n ∧ i ≤ j ∧ One wz 3 1 v8 (grpZ (comp.take j) (sl.take j) q).length (ints (grpZ (comp.take j) (sl.take j) q)) w'))
            case atStart => exact ⟨i, rfl, Lib.hid ⟨by have := HIK.out.2.2.1; omega, Nat.le_refl _, by rw [HG0.out]; exact One.start⟩⟩
            case round =>
              clear q0
              obtain ⟨j, rfl, hI⟩ := hrel
              obtain ⟨hjk, hij, hO8⟩ := hI.out
              clear hI
              have q0 := (HXW.out.below hO8.b HXW.out.lt).cell 0 rfl
              by_cases hj : j < n
              · obtain ⟨k2, rfl⟩ : ∃ k2, gk = k2 + 1 := ⟨gk - 1, by omega⟩
                obtain ⟨_, Bj, cBj, hbe, cj, cjx⟩ := (HCR.out.below hO8.b) j hj
                cases hbe
                have ci := keep_at hO8.b HCI.out
                have x1 := keep_at hO8.b (HCX.out j hj)
                have x2 := cjx i HIK.out.2.2.1
                have hmu := HMU.out j hj
                obtain ⟨y, hy⟩ : ∃ y, sl[j]? = some y := ⟨_, List.getElem?_eq_getElem (by have := HN.out; omega)⟩
                obtain ⟨ba, rfl, cy⟩ := (RdI.below HVW.out hO8.b) j y hy
                have hup := grpZ_up (comp := comp) (sl := sl) (c := q) (j := j) (by have := HIK.out.2.2.2; omega) (by have := HN.out; omega)
                rw [show sl.getD j 0 = y by rw [List.getD_eq_getElem?_getD, hy]; rfl] at hup
                obtain ⟨r1, hr1⟩ : ∃ r1, rB (PE sl R) i j = r1 := ⟨_, rfl⟩
                obtain ⟨r2, hr2⟩ : ∃ r2, rB (PE sl R) j i = r2 := ⟨_, rfl⟩
                rw [hr1] at x1 hmu
                rw [hr2] at x2 hmu
                obtain ⟨g8, hg8⟩ : ∃ g8, grpZ (comp.take j) (sl.take j) q = g8 := ⟨_, rfl⟩
                have hg8n : g8.length ≤ 1000 := by
                  rw [← hg8]
                  refine Nat.le_trans (grpZ_length _ _ _) ?_
                  rw [List.length_take]
                  omega
                rw [hg8] at hO8 hup
                have HO8 := Lib.hid hO8
                have HUP := Lib.hid hup
                have HJ := Lib.hid (show j + (k2 + 1) = n ∧ i ≤ j from ⟨hjk, hij⟩)
                have k0 : (0 : Int) ≤ (j : Int) := by omega
                have k1' : (j : Int) < (n : Int) := by omega
                by_cases hjq : comp.getD j 0 = q
                · rw [decide_eq_true hjq] at hmu
                  have hr12 := Bool.and_eq_true_iff.1 hmu
                  have HQ := Lib.hid hjq
                  rw [hr12.1] at x1
                  rw [hr12.2] at x2
                  clear hmu hr1 hr2 hr12 cjx hjk hij hj hjq hup hO8 hg8 hy r1 r2
                  go_wp2_with ((at_builtin; (refine wpList_append_any rfl (.tmp 70) (.tmp 76) 22 rfl wz.heap.size 3 i1 (.int .i64 0) 1 8 Try.underlying22 hi1 hz1 hs1 hy1 rfl (by omega) _ _ _ rfl (HO8.out.r.alloc (.cells #[.int .i64 y] 3)) _ rfl 1 [.int .i64 y] (RdV.lit wr #[.int .i64 y] 3 1 1 1 rfl (by simp [Value.oneCell'])) (by unfold maxLen; omega) (by omega) (by have := HO8.out.b.size; simp; omega) ?_; intro v8 w8 ho hg hn; have hone := (HO8.out.below ((Below.refl _ _).alloc (Nat.le_refl _) (.cells #[.int .i64 y] 3))).grow ho hg; have HO9 := Lib.hid hone; clear ho hg hn hone HO8)))
                  go_roundg k2
                  case measure => have := HJ.out.1; omega
                  case rel =>
                    refine ⟨j + 1, by go_num, Lib.hid ⟨by have := HJ.out.1; omega, by have := HJ.out.2; omega, ?_⟩⟩
                    rw [HUP.out, if_pos HQ.out, List.length_append, List.length_singleton, ← ints_snoc]
                    exact HO9.out
                · rw [decide_eq_false hjq] at hmu
                  have HQ := Lib.hid hjq
                  clear hr1 hr2 cjx hjk hij hj hjq hup hO8 hg8 hy
                  have HREL := Lib.hid (show One wz 3 1 u8 (grpZ (comp.take (j + 1)) (sl.take (j + 1)) q).length (ints (grpZ (comp.take (j + 1)) (sl.take (j + 1)) q)) wr by
                    rw [HUP.out, if_neg HQ.out, List.append_nil]; exact HO8.out)
                  cases r1 <;> cases r2
                  case true.true => cases hmu
                  all_goals clear hmu
                  all_goals go_wp2
                  all_goals go_roundg k2
                  all_goals first
                    | (have := HJ.out.1; omega)
                    | exact ⟨j + 1, by go_num, Lib.hid ⟨by have := HJ.out.1; omega, by have := HJ.out.2; omega, HREL.out⟩⟩
              · obtain rfl : n = j := by omega
                rw [List.take_of_length_le (by have := HIK.out.2.2.2; omega), List.take_of_length_le (by have := HN.out; omega)] at hO8
                obtain ⟨A8, c8, rfl⟩ := own_slice hO8.r
                have hzn := HZ.out.snoc hO8.b (Nat.le_refl _) HO.out.b.size hO8.r
                have hrg : (List.range q).map (grpZ comp sl) ++ [grpZ comp sl q] = (List.range (q + 1)).map (grpZ comp sl) := by rw [List.range_succ, List.map_append]; rfl
                rw [hrg] at hzn
                obtain ⟨n8, hn8⟩ : ∃ n8, (grpZ comp sl q).length = n8 := ⟨_, rfl⟩
                rw [hn8] at hzn ⊢
                have HZN := Lib.hid hzn
                have HON := Lib.hid (HO.out.below hO8.b)
                have hqn : q ≤ 1000 := by have := HIK.out.2.1; omega
                clear hO8 hzn hrg hn8 hjk hij hj
                go_wp2_with ((at_builtin; (refine wpList_append_any rfl (.tmp 78) (.tmp 80) 24 rfl w1.heap.size 22 i3 (.slice none 0 0) 1 24 Try.underlying24 hi3 hz3 hs3 hy3 rfl (by omega) _ _ _ rfl (HON.out.r.alloc (.cells #[.slice A8 n8 c8] 22)) _ rfl 1 [.slice A8 n8 c8] (RdV.lit wr #[.slice A8 n8 c8] 22 1 1 1 rfl (by simp [Value.oneCell'])) (by unfold maxLen; omega) (by omega) (by have := HON.out.b.size; simp; omega) ?_; intro v4 w4 ho hg hn; have hone := (HON.out.below ((Below.refl _ _).alloc (Nat.le_refl _) (.cells #[.slice A8 n8 c8] 22))).grow ho hg; have hzz := (HZN.out.below ((Below.refl _ _).alloc (Nat.le_refl _) (.cells #[.slice A8 n8 c8] 22))).other (HON.out.r.alloc (.cells #[.slice A8 n8 c8] 22)) (by decide) hg; have HO4 := Lib.hid hone; have HZ4 := Lib.hid hzz; clear ho hg hn hone hzz)))
                go_roundg k1
                case measure => have := HIK.out.1; omega
                case rel => exact ⟨i + 1, q + 1, by go_num, Lib.hid ⟨by have := HIK.out.1; omega, by have := HIK.out.2.1; omega, HFO.out, _, HO4.out, HZ4.out⟩⟩
    · obtain rfl : n = i := by omega
      rw [List.take_of_length_le (by omega)] at hfo
      obtain rfl : m = q := Option.some.inj (HCO.out.2.1.symm.trans hfo)
      obtain ⟨A', c', rfl⟩ := own_slice hO.r
      have hvl : vals.length = m := by have := hO.r.1; omega
      have hrd : RdL wr A' (ofL comp sl m) := by
        intro k r hk
        have hkm : k < m := by have := (List.getElem?_eq_some_iff.1 hk).1; simpa [ofL] using this
        obtain ⟨g, rfl, _, hcc⟩ := cell_flat hO.r (by omega)
        obtain ⟨u, hu⟩ : ∃ u, vals[k]? = some u := ⟨_, List.getElem?_eq_getElem (by omega)⟩
        obtain ⟨B, cB, rfl, hrb⟩ := hZ.rd hu hk
        exact ⟨g, B, cB, rfl, hcc k _ hu, hrb⟩
      have HRD := Lib.hid hrd
      have HO := Lib.hid hO
      clear hO hZ hvl hrd hfo hik hqi hcn hi
      go_wp2
      go_ret
      exact ⟨A', c', rfl, HRD.out, HB1.out.trans (HO.out.b.mono HB1.out.size)⟩

end Go.Proofs.Ytgihncjllelonaa.Lw

/- Plain: the components that Of answers, told by mutual reach; their heads rise. -/
namespace Go.Proofs.Ytgihncjllelonaa.Ce
open Go.Proofs.Ytgihncjllelonaa.Tj Go.Proofs.Ytgihncjllelonaa.Sl Go.Proofs.Ytgihncjllelonaa.Lw
set_option linter.unusedVariables false

theorem mem_grpZ : ∀ (comp : List Nat) (sl : List Int) (c : Nat) (x : Int), comp.length = sl.length → (x ∈ grpZ comp sl c ↔ ∃ v, v < comp.length ∧ comp.getD v 0 = c ∧ sl.getD v 0 = x)
  | [], [], c, x, _ => by simp [grpZ]
  | [], _ :: _, _, _, h => by simp at h
  | _ :: _, [], _, _, h => by simp at h
  | a :: r, y :: s, c, x, h => by
    have ih := mem_grpZ r s c x (by simpa using h)
    have e : grpZ (a :: r) (y :: s) c = if a = c then y :: grpZ r s c else grpZ r s c := by
      unfold grpZ
      rw [List.zip_cons_cons]
      by_cases hac : a = c
      · rw [if_pos hac, List.filter_cons_of_pos (by simpa using hac), List.map_cons]
      · rw [if_neg hac, List.filter_cons_of_neg (by simpa using hac)]
    rw [e]
    constructor
    · intro hx
      split at hx
      · rename_i hac
        rcases List.mem_cons.1 hx with rfl | hx
        · exact ⟨0, by simp, by simpa using hac, by simp⟩
        · obtain ⟨v, h1, h2, h3⟩ := ih.1 hx
          exact ⟨v + 1, by simpa using h1, by simpa using h2, by simpa using h3⟩
      · obtain ⟨v, h1, h2, h3⟩ := ih.1 hx
        exact ⟨v + 1, by simpa using h1, by simpa using h2, by simpa using h3⟩
    · rintro ⟨v, h1, h2, h3⟩
      cases v with
      | zero =>
        have hac : a = c := by simpa using h2
        have hyx : y = x := by simpa using h3
        rw [if_pos hac, hyx]
        exact List.mem_cons_self
      | succ v =>
        have := ih.2 ⟨v, by simpa using h1, by simpa using h2, by simpa using h3⟩
        split
        · exact List.mem_cons.2 (.inr this)
        · exact this

structure Grp (sl : List Int) (N : Int → Int → Prop) (ls : List (List Int)) : Prop where
  ne : ∀ l ∈ ls, l ≠ []
  al : ∀ x, x ∈ sl ↔ ∃ l ∈ ls, x ∈ l
  up : ∀ l ∈ ls, l.Pairwise (· < ·)
  dj : ∀ (i j : Nat) (l l' : List Int) (x : Int), ls[i]? = some l → ls[j]? = some l' → x ∈ l → x ∈ l' → i = j
  cl : ∀ l ∈ ls, ∀ x ∈ l, ∀ y, y ∈ l ↔ (y ∈ sl ∧ Cl N x y ∧ Cl N y x)
theorem place_inj {sl : List Int} (hs : sl.Pairwise (· < ·)) {x y : Int} (hx : x ∈ sl) (hy : y ∈ sl) (h : place sl x = place sl y) : x = y := by
  obtain ⟨i, hi, e1, e2⟩ := mem_place hs hx
  obtain ⟨j, hj, f1, f2⟩ := mem_place hs hy
  have : i = j := by omega
  subst this
  exact e1.symm.trans f1
theorem rch_cl {sl : List Int} {arcs : List (Int × Int)} (hs : sl.Pairwise (· < ·)) (hg : good sl arcs = true) {x y : Int} (hx : x ∈ sl) (hy : y ∈ sl) : Rch (PE sl arcs) (place sl x) (place sl y) ↔ Cl (fun a b => (a, b) ∈ arcs) x y := by
  have hgd := good_iff.1 hg
  constructor
  · intro h
    obtain ⟨b, hb⟩ : ∃ b, place sl y = b := ⟨_, rfl⟩
    rw [hb] at h
    induction h generalizing y with
    | refl => rw [place_inj hs hx hy hb.symm]; exact .base
    | step _ he ih =>
      obtain ⟨p, hp, e1, e2⟩ := he
      have h1 : p.1 ∈ sl := by simpa using (hgd p hp).1
      have h2 : p.2 ∈ sl := by simpa using (hgd p hp).2
      obtain rfl := place_inj hs h2 hy (e2.trans hb.symm)
      exact .step (ih h1 e1) hp
  · intro h
    clear hy
    induction h with
    | base => exact .refl _
    | step _ he ih => exact .step ih ⟨_, he, rfl, rfl⟩
theorem getD_of {α : Type} {l : List α} {i : Nat} {x d : α} (h : l[i]? = some x) : l.getD i d = x := by rw [List.getD_eq_getElem?_getD, h]; rfl
theorem grp_of {sl : List Int} {arcs : List (Int × Int)} {comp : List Nat} {m : Nat} (hs : sl.Pairwise (· < ·)) (hg : good sl arcs = true) (hc : CompOf sl.length (PE sl arcs) comp m) : Grp sl (fun a b => (a, b) ∈ arcs) (ofL comp sl m) := by
  obtain ⟨hlen, hfo, hcl⟩ := hc
  have hrow : ∀ (i : Nat) (l : List Int), (ofL comp sl m)[i]? = some l → i < m ∧ l = grpZ comp sl i := fun i l h => by
    unfold ofL at h
    rw [List.getElem?_map] at h
    rcases Nat.lt_or_ge i m with hi | hi
    · rw [List.getElem?_range hi] at h
      cases h
      exact ⟨hi, rfl⟩
    · rw [List.getElem?_eq_none (by simpa using hi)] at h
      cases h
  have hin : ∀ l ∈ ofL comp sl m, ∃ i, i < m ∧ l = grpZ comp sl i := fun l hl => by
    obtain ⟨i, hi, e⟩ := List.getElem_of_mem hl
    exact ⟨i, hrow i l (by rw [List.getElem?_eq_getElem hi, e])⟩
  have hmem : ∀ c x, x ∈ grpZ comp sl c ↔ x ∈ sl ∧ comp.getD (place sl x) 0 = c := fun c x => by
    rw [mem_grpZ comp sl c x hlen]
    constructor
    · rintro ⟨v, h1, h2, h3⟩
      have hv : v < sl.length := by omega
      have e : sl[v] = x := by rw [← h3, getD_of (List.getElem?_eq_getElem hv)]
      have hx : x ∈ sl := e ▸ List.getElem_mem hv
      have : place sl x = v := e ▸ place_at sl v hs hv
      exact ⟨hx, by rw [this]; exact h2⟩
    · rintro ⟨hx, h2⟩
      obtain ⟨i, hi, e1, e2⟩ := mem_place hs hx
      exact ⟨i, by omega, by rw [← e2]; exact h2, by rw [getD_of (List.getElem?_eq_getElem hi), e1]⟩
  have hlt := (fo_lt comp 0 m hfo).2
  refine ⟨fun l hl e => ?_, fun x => ?_, fun l hl => ?_, fun i j l l' x h1 h2 hx hx' => ?_, fun l hl x hx y => ?_⟩
  · obtain ⟨i, hi, rfl⟩ := hin l hl
    have hic := fo_mem comp 0 m hfo i (Nat.zero_le _) hi
    obtain ⟨v, hv, e2⟩ := List.getElem_of_mem hic
    have hv' : v < sl.length := by omega
    have : sl[v] ∈ grpZ comp sl i := (hmem i _).2 ⟨List.getElem_mem hv', by rw [place_at sl v hs hv', getD_of (List.getElem?_eq_getElem hv), e2]⟩
    rw [e] at this
    cases this
  · constructor
    · intro hx
      obtain ⟨i, hi, e1, e2⟩ := mem_place hs hx
      have hi' : i < comp.length := by omega
      have hcm : comp.getD i 0 < m := by
        rw [getD_of (List.getElem?_eq_getElem hi')]
        exact hlt _ (List.getElem_mem hi')
      refine ⟨grpZ comp sl (comp.getD i 0), ?_, (hmem _ x).2 ⟨hx, by rw [e2]⟩⟩
      unfold ofL
      exact List.mem_map.2 ⟨_, List.mem_range.2 hcm, rfl⟩
    · rintro ⟨l, hl, hx⟩
      obtain ⟨i, hi, rfl⟩ := hin l hl
      exact ((hmem i x).1 hx).1
  · obtain ⟨i, hi, rfl⟩ := hin l hl
    unfold grpZ
    have hsub : (((comp.zip sl).filter fun p => decide (p.1 = i)).map Prod.snd).Sublist sl := by
      refine ((List.filter_sublist (l := comp.zip sl)).map Prod.snd).trans ?_
      rw [List.map_snd_zip (by omega)]
      exact List.Sublist.refl _
    exact hs.sublist hsub
  · obtain ⟨_, rfl⟩ := hrow i l h1
    obtain ⟨_, rfl⟩ := hrow j l' h2
    exact ((hmem i x).1 hx).2.symm.trans ((hmem j x).1 hx').2
  · obtain ⟨i, hi, rfl⟩ := hin l hl
    obtain ⟨hxs, hxc⟩ := (hmem i x).1 hx
    rw [hmem i y]
    constructor
    · rintro ⟨hys, hyc⟩
      have := (hcl (place sl x) (place sl y) (place_lt hs hxs) (place_lt hs hys)).1 (hxc.trans hyc.symm)
      exact ⟨hys, (rch_cl hs hg hxs hys).1 this.1, (rch_cl hs hg hys hxs).1 this.2⟩
    · rintro ⟨hys, h1, h2⟩
      exact ⟨hys, ((hcl (place sl x) (place sl y) (place_lt hs hxs) (place_lt hs hys)).2 ⟨(rch_cl hs hg hxs hys).2 h1, (rch_cl hs hg hys hxs).2 h2⟩).symm.trans hxc⟩
theorem fo_memT {l : List Nat} {m : Nat} (h : fo l 0 = some m) : ∀ (t q : Nat), t ≤ l.length → fo (l.take t) 0 = some q → ∀ c, c < q ↔ c ∈ l.take t
  | 0, q, _, hq, c => by
    rw [List.take_zero, fo] at hq
    cases hq
    simp
  | t + 1, q, ht, hq, c => by
    obtain ⟨q0, hq0⟩ := fo_take l 0 m t h
    obtain ⟨h1, h2, h3⟩ := fo_next l 0 m t q0 h hq0 (by omega)
    have ih := fo_memT h t q0 (by omega) hq0
    rw [h1] at hq
    rw [List.take_add_one, List.getElem?_eq_getElem (by omega), List.mem_append, ← ih c]
    simp only [Option.toList_some, List.mem_singleton]
    split at hq
    · rename_i hlt
      cases hq
      exact ⟨.inl, fun h => h.elim id fun e => e ▸ hlt⟩
    · rename_i hlt
      cases hq
      have : l[t] = q0 := by omega
      rw [this]
      omega
theorem ofL_rise {n m : Nat} {E : Nat → Nat → Prop} {comp : List Nat} {sl : List Int} {N : Int → Int → Prop} (hc : CompOf n E comp m) (hs : sl.Pairwise (· < ·)) (hn : sl.length = n) (hG : Grp sl N (ofL comp sl m)) :
    ∀ (i j : Nat) (a b : Int) (r s : List Int), i < j → (ofL comp sl m)[i]? = some (a :: r) → (ofL comp sl m)[j]? = some (b :: s) → a < b := fun i j a b r s hij hi hj => by
  obtain ⟨hlen, hfo, _⟩ := hc
  have hrow : ∀ (i : Nat) (l : List Int), (ofL comp sl m)[i]? = some l → l = grpZ comp sl i := fun i l h => by
    unfold ofL at h
    rw [List.getElem?_map] at h
    cases hx : (List.range m)[i]? with
    | none => rw [hx] at h; cases h
    | some v =>
      rw [hx] at h
      have := List.getElem?_eq_some_iff.1 hx
      obtain ⟨h1, h2⟩ := this
      rw [List.getElem_range] at h2
      subst h2
      simpa using h.symm
  have ei := hrow i _ hi
  have ej := hrow j _ hj
  have upi := hG.up _ (List.mem_of_getElem? hi)
  have upj := hG.up _ (List.mem_of_getElem? hj)
  rw [List.pairwise_cons] at upi upj
  obtain ⟨tb, hb1, hb2, hb3⟩ := (mem_grpZ comp sl j b (by omega)).1 (by rw [← ej]; simp)
  have hgd : ∀ t, (h : t < comp.length) → comp.getD t 0 = comp[t] := fun t h => by rw [List.getD_eq_getElem?_getD, List.getElem?_eq_getElem h]; rfl
  have hgs : ∀ t, (h : t < sl.length) → sl.getD t 0 = sl[t] := fun t h => by rw [List.getD_eq_getElem?_getD, List.getElem?_eq_getElem h]; rfl
  have hfirst : j ∉ comp.take tb := fun hx => by
    obtain ⟨t, ht, he⟩ := List.getElem_of_mem hx
    rw [List.length_take] at ht
    rw [List.getElem_take] at he
    have hm : sl.getD t 0 ∈ grpZ comp sl j := (mem_grpZ comp sl j _ (by omega)).2 ⟨t, by omega, by rw [hgd t (by omega), he], rfl⟩
    rw [← ej] at hm
    have hlt : sl.getD t 0 < b := by
      rw [← hb3, hgs t (by omega), hgs tb (by omega)]
      exact List.pairwise_iff_getElem.1 hs t tb (by omega) (by omega) (by omega)
    rcases List.mem_cons.1 hm with h | h
    · omega
    · have := upj.1 _ h
      omega
  obtain ⟨q, hq⟩ := fo_take comp 0 m tb hfo
  obtain ⟨_, h2, _⟩ := fo_next comp 0 m tb q hfo hq hb1
  have hmem := fo_memT hfo tb q (by omega) hq
  rw [hgd tb hb1] at hb2
  have hqj : q = j := by
    have := mt (hmem j).1 hfirst
    omega
  obtain ⟨t, ht, he⟩ := List.getElem_of_mem ((hmem i).1 (by omega))
  rw [List.length_take] at ht
  rw [List.getElem_take] at he
  have hm : sl.getD t 0 ∈ grpZ comp sl i := (mem_grpZ comp sl i _ (by omega)).2 ⟨t, by omega, by rw [hgd t (by omega), he], rfl⟩
  rw [← ei] at hm
  have hlt : sl.getD t 0 < b := by
    rw [← hb3, hgs t (by omega), hgs tb (by omega)]
    exact List.pairwise_iff_getElem.1 hs t tb (by omega) (by omega) (by omega)
  rcases List.mem_cons.1 hm with h | h
  · omega
  · have := upi.1 _ h
    omega
end Go.Proofs.Ytgihncjllelonaa.Ce

/- Plain: a list of lists is the components. -/
namespace Go.Proofs.Ytgihncjllelonaa.Ce
open Go Go.Proofs.Ytgihncjllelonaa.Tj Go.Proofs.Ytgihncjllelonaa.Sl Go.Proofs.Ytgihncjllelonaa.Lw
set_option linter.unusedVariables false

def PartsOk (code : Nat) (gs comps : List (List Int)) : Prop := code = 0 ∧ comps.length = gs.length ∧ (comps.map sorted).Perm gs
theorem perm_of_all : ∀ (gs C : List (List Int)), gs.Nodup → (∀ g ∈ gs, g ∈ C) → gs.length = C.length → gs.Perm C
  | [], C, _, _, h => by
    have : C = [] := List.length_eq_zero_iff.1 h.symm
    rw [this]
  | g :: gs, C, hn, hm, h => by
    rw [List.nodup_cons] at hn
    have hg := hm g List.mem_cons_self
    have hp := List.perm_cons_erase hg
    have hl := List.length_erase_of_mem hg
    have ih := perm_of_all gs (C.erase g) hn.2 (fun x hx => (List.mem_erase_of_ne (fun e : x = g => hn.1 (by rw [← e]; exact hx))).2 (hm x (List.mem_cons_of_mem _ hx))) (by
      rw [hl, ← h]
      rfl)
    exact (ih.cons g).trans hp.symm
theorem count_one : ∀ {gs : List (List Int)} {g : List Int}, gs.Nodup → g ∈ gs → gs.count g = 1
  | [], _, _, h => by cases h
  | a :: gs, g, hn, h => by
    rw [List.nodup_cons] at hn
    rw [List.count_cons]
    by_cases e : a = g
    · subst e
      rw [List.count_eq_zero.2 hn.1]
      simp
    · have hg : g ∈ gs := by
        rcases List.mem_cons.1 h with h | h
        · exact absurd h.symm e
        · exact h
      rw [count_one hn.2 hg]
      simp [e]
theorem parts_count {gs comps : List (List Int)} (hn : gs.Nodup) : (gs.length = comps.length ∧ ∀ g ∈ gs, (comps.map sorted).count g = 1) ↔ (comps.length = gs.length ∧ (comps.map sorted).Perm gs) := by
  constructor
  · rintro ⟨h1, h2⟩
    refine ⟨h1.symm, (perm_of_all gs _ hn (fun g hg => List.count_pos_iff.1 (by rw [h2 g hg]; decide)) (by rw [List.length_map, h1])).symm⟩
  · rintro ⟨h1, h2⟩
    refine ⟨h1.symm, fun g hg => ?_⟩
    rw [h2.count_eq g]
    exact count_one hn hg
theorem grp_nodup {sl : List Int} {N : Int → Int → Prop} {gs : List (List Int)} (h : Grp sl N gs) : gs.Nodup := by
  unfold List.Nodup
  rw [List.pairwise_iff_getElem]
  intro i j hi hj hij e
  cases hx : gs[i] with
  | nil => exact h.ne _ (List.getElem_mem hi) hx
  | cons a r =>
    have := h.dj i j gs[i] gs[j] a (List.getElem?_eq_getElem hi) (List.getElem?_eq_getElem hj) (by rw [hx]; exact List.mem_cons_self) (by rw [← e, hx]; exact List.mem_cons_self)
    omega
end Go.Proofs.Ytgihncjllelonaa.Ce
