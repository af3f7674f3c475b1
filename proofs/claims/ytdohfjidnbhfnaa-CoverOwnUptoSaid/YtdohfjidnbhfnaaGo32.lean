/- The references' Of, walked. -/
import Derived.Test.YtdohfjidnbhfnaaGo31
namespace Go.Proofs.Ytdohfjidnbhfnaa.Lw
open Go Go.RowKit Go.Proofs.Ytdohfjidnbhfnaa.Mem Go.Proofs.Ytdohfjidnbhfnaa.Sl Go.Proofs.Ytdohfjidnbhfnaa.Scc Go.Proofs.Ytdohfjidnbhfnaa.Tj Go.Proofs.YtdohfjidnbhfnaaW.PrintWords Go.Proofs.YtdohfjidnbhfnaaW.PrintLast
attribute [local go_sem ↓] Go.wp_at_zero Go.wp_at_succ
set_option linter.unusedSimpArgs false
set_option linter.unusedVariables false

def fstB (comp : List Nat) (i j : Nat) : Bool := (comp.take j).all fun c => decide (c ≠ comp.getD i 0)
theorem fstB_succ {comp : List Nat} {i j : Nat} (h : j < comp.length) : fstB comp i (j + 1) = (fstB comp i j && decide (comp.getD j 0 ≠ comp.getD i 0)) := by
  unfold fstB
  rw [List.take_add_one, List.getElem?_eq_getElem h, List.all_append]
  have : comp.getD j 0 = comp[j] := by rw [List.getD_eq_getElem?_getD, List.getElem?_eq_getElem h]; rfl
  rw [this]
  simp
theorem grpZ_up {comp : List Nat} {sl : List Int} {c j : Nat} (h1 : j < comp.length) (h2 : j < sl.length) : grpZ (comp.take (j + 1)) (sl.take (j + 1)) c = grpZ (comp.take j) (sl.take j) c ++ (if comp.getD j 0 = c then [sl.getD j 0] else []) := by
  have e1 : comp.getD j 0 = comp[j] := by rw [List.getD_eq_getElem?_getD, List.getElem?_eq_getElem h1]; rfl
  have e2 : sl.getD j 0 = sl[j] := by rw [List.getD_eq_getElem?_getD, List.getElem?_eq_getElem h2]; rfl
  rw [e1, e2]
  unfold grpZ
  rw [List.take_succ_eq_append_getElem h1, List.take_succ_eq_append_getElem h2, List.zip_append (by rw [List.length_take, List.length_take]; omega), List.filter_append, List.map_append]
  congr 1
  by_cases h : comp[j] = c
  · rw [if_pos h]; simp [h]
  · rw [if_neg h]; simp [h]
theorem grpZ_none {comp : List Nat} {sl : List Int} {i : Nat} (h : fstB comp i i = true) : grpZ (comp.take i) (sl.take i) (comp.getD i 0) = [] := by
  unfold grpZ
  rw [List.filter_eq_nil_iff.2 ?_]
  · rfl
  · intro p hp
    have h1 : p.1 ∈ comp.take i := (List.of_mem_zip hp).1
    have h2 := List.all_eq_true.1 h p.1 h1
    simpa using h2
theorem fstB_iff {comp : List Nat} {i : Nat} : fstB comp i i = true ↔ comp.getD i 0 ∉ comp.take i := by
  unfold fstB
  rw [List.all_eq_true]
  exact ⟨fun h hm => by have := h _ hm; simp at this, fun h c hc => by rw [decide_eq_true_eq]; exact fun e => h (e ▸ hc)⟩
theorem fo_next : ∀ (l : List Nat) (k m i q : Nat), fo l k = some m → fo (l.take i) k = some q → (h : i < l.length) → (fo (l.take (i + 1)) k = some (if l[i] < q then q else q + 1)) ∧ l[i] ≤ q ∧ (l[i] < q ↔ l[i] < k ∨ l[i] ∈ l.take i)
  | [], k, m, i, q, h, hq, hi => by simp at hi
  | c :: r, k, m, 0, q, h, hq, hi => by
    rw [List.take_zero, fo] at hq
    cases hq
    rw [fo] at h
    rw [List.take_succ_cons, List.take_zero, List.getElem_cons_zero, fo]
    split at h
    · rename_i hc
      rw [if_pos hc, if_pos hc]
      exact ⟨rfl, by omega, by simp⟩
    · rename_i hc
      rw [if_neg hc, if_neg hc]
      split at h
      · rename_i hk
        rw [if_pos hk]
        exact ⟨rfl, by omega, by simp⟩
      · cases h
  | c :: r, k, m, i + 1, q, h, hq, hi => by
    rw [fo] at h
    rw [List.take_succ_cons, fo] at hq
    rw [List.take_succ_cons (i := i + 1), List.getElem_cons_succ, fo]
    have hi' : i < r.length := by simpa using hi
    split at h
    · rename_i hc
      rw [if_pos hc] at hq ⊢
      obtain ⟨a, b, d⟩ := fo_next r k m i q h hq hi'
      refine ⟨a, b, d.trans ⟨fun x => x.imp id (fun y => by rw [List.take_succ_cons]; exact List.mem_cons_of_mem _ y), fun x => ?_⟩⟩
      rcases x with x | x
      · exact .inl x
      · rw [List.take_succ_cons] at x
        rcases List.mem_cons.1 x with y | y
        · left; omega
        · exact .inr y
    · rename_i hc
      rw [if_neg hc] at hq ⊢
      split at h
      · rename_i hk
        rw [if_pos hk] at hq ⊢
        obtain ⟨a, b, d⟩ := fo_next r (k + 1) m i q h hq hi'
        refine ⟨a, b, d.trans ⟨fun x => ?_, fun x => ?_⟩⟩
        · rcases x with x | x
          · rcases Nat.lt_or_ge r[i] k with y | y
            · exact .inl y
            · right; rw [List.take_succ_cons]; exact List.mem_cons.2 (.inl (by omega))
          · right; rw [List.take_succ_cons]; exact List.mem_cons_of_mem _ x
        · rcases x with x | x
          · left; omega
          · rw [List.take_succ_cons] at x
            rcases List.mem_cons.1 x with y | y
            · left; omega
            · exact .inr y
      · cases h


theorem mut_iff {n m : Nat} {E : Nat → Nat → Prop} {comp : List Nat} (h : CompOf n E comp m) {i j : Nat} (hi : i < n) (hj : j < n) : (rB E i j && rB E j i) = decide (comp.getD j 0 = comp.getD i 0) := by
  rw [Bool.eq_iff_iff, Bool.and_eq_true, rB_iff, rB_iff, decide_eq_true_eq, ← h.2.2 i j hi hj]
  exact ⟨Eq.symm, Eq.symm⟩

def OSt (w1 : World) (comp : List Nat) (sl : List Int) (i q : Nat) (v4 : Value) (W : World) : Prop :=
  fo (comp.take i) 0 = some q ∧ ∃ vals, One w1 24 1 v4 q vals W ∧ Rz W w1.heap.size vals ((List.range q).map (grpZ comp sl))


set_option maxHeartbeats 8000000 in
set_option maxRecDepth 100000 in
theorem ofR_calls (w : World) (A AE : Option Addr) (cg ce m : Nat) (sl : List Int) (R : List (Int × Int)) (comp : List Nat) (hv : RdI w A sl) (he : RdE w AE R) (hs : sl.Pairwise (· < ·)) (hgood : good sl R = true) (hco : CompOf sl.length (PE sl R) comp m) (hl : sl.length ≤ 1000) (hr : R.length ≤ 100000) :
    Calls Try.prog 49 #[gV A sl.length cg (.slice AE R.length ce)] w fun e w' => ∃ A' c', e = .returned (.slice A' m c') ∧ RdL w' A' (ofL comp sl m) ∧ Below w.heap.size w w' := by
  obtain ⟨i1, hi1, hz1, hs1, hy1⟩ := info_parts info_int
  obtain ⟨i3, hi3, hz3, hs3, hy3⟩ := info_parts info_ints
  obtain ⟨n, hn⟩ : ∃ n, sl.length = n := ⟨_, rfl⟩
  have hclc := fun (W : World) (hW : Below w.heap.size w W) => closure_calls W A AE cg ce sl R (hv.below hW) (he.below hW) hs hgood hl hr
  rw [hn] at hl hco hclc ⊢
  unfold gV at hclc ⊢
  have HV := Lib.hid hv
  have HN := Lib.hid hn
  have HCO := Lib.hid hco
  have HCL := Lib.hid hclc
  clear hv he hs hgood hn hco hclc
  go_enter Try.func49, Try.ntmps49
  go_wp2_with fail
  refine (HCL.out _ ((Below.refl _ _).alloc (Nat.le_refl _) _)).mono ?_
  clear HCL
  rintro e w1 ⟨A3, c3, rfl, hrc, hb1⟩
  have hsz : (w.alloc (.cells #[.slice A n cg, .slice AE R.length ce, .int .i64 0, .int .i64 0] 27)).heap.size = w.heap.size + 1 := by simp
  have hgx : At w1 w.heap.size [.slice A n cg, .slice AE R.length ce, .int .i64 0, .int .i64 0] 27 := (At.made (w := w) (a := #[.slice A n cg, .slice AE R.length ce, .int .i64 0, .int .i64 0]) rfl rfl).below hb1 (by rw [hsz]; omega)
  have hbel : Below w.heap.size w w1 := ((Below.refl _ _).alloc (Nat.le_refl _) _).trans (hb1.mono (by rw [hsz]; omega))
  obtain ⟨gx, hgxe⟩ : ∃ gx, w.heap.size = gx := ⟨_, rfl⟩
  rw [hgxe] at hgx ⊢
  have q0 := hgx.cell 0 rfl
  have HGXE := Lib.hid hgxe
  have HX := Lib.hid hgx
  have HRC := Lib.hid hrc
  have HB1 := Lib.hid hbel
  have HV1 := Lib.hid (HV.out.below (hgxe ▸ hbel : Below w.heap.size w w1))
  clear hsz hgx hbel hrc hb1 HV
  go_wp2_with fail
  clear q0
  go_loopg [4, 5] n (fun kq v4 v5 w' => ∃ i q : Nat, v5 = .int .i64 (i : Int) ∧ Hid (i + kq = n ∧ q ≤ i ∧ OSt w1 comp sl i q v4 w'))
  case atStart => exact ⟨0, 0, rfl, Lib.hid ⟨by omega, Nat.le_refl _, rfl, [], One.start, Rz.nil⟩⟩
  case round =>
    obtain ⟨i, q, rfl, hI⟩ := hrel
    obtain ⟨hik, hqi, hfo, vals, hO, hZ⟩ := hI.out
    clear hI
    have q0 := (HX.out.below hO.b HX.out.lt).cell 0 rfl
    have hcn : comp.length = n := HCO.out.1
    by_cases hi : i < n
    · obtain ⟨k1, rfl⟩ : ∃ k1, gk = k1 + 1 := ⟨gk - 1, by omega⟩
      obtain ⟨b3, Bi, cBi, rfl, ci, cix⟩ := (HRC.out.below hO.b) i hi
      have hci : comp.getD i 0 = comp[i]'(by omega) := by rw [List.getD_eq_getElem?_getD, List.getElem?_eq_getElem (by omega)]; rfl
      obtain ⟨hf1, hf2, hf3⟩ := fo_next comp 0 m i q HCO.out.2.1 hfo (by omega)
      rw [← hci] at hf1 hf2 hf3
      have HF1 := Lib.hid hf1
      have HF2 := Lib.hid hf2
      have HF3 := Lib.hid hf3
      have HO := Lib.hid hO
      have HZ := Lib.hid hZ
      have HIK := Lib.hid (show i + (k1 + 1) = n ∧ q ≤ i ∧ i < n ∧ comp.length = n from ⟨hik, hqi, hi, hcn⟩)
      have HCI := Lib.hid ci
      have HCX := Lib.hid cix
      have HCR := Lib.hid (HRC.out.below hO.b)
      have HVW := Lib.hid (RdI.below HV1.out hO.b)
      have HXW := Lib.hid (HX.out.below hO.b HX.out.lt)
      have j0 : (0 : Int) ≤ (i : Int) := by omega
      have j1 : (i : Int) < (n : Int) := by omega
      have j2 : (n : Int) ≤ 1000 := by omega
      obtain ⟨wr0, hwr0⟩ : ∃ wr0, wr = wr0 := ⟨_, rfl⟩
      rw [hwr0] at HO HZ HCI HCX HCR HVW HXW q0 ⊢
      clear hf1 hf2 hf3 hfo hO hZ hik hqi hcn hci ci cix hwr0 hi
      go_wp2_with fail
      go_loopg [6, 7] i (fun kq v6 v7 w' => ∃ j : Nat, v7 = .int .i64 (j : Int) ∧ v6 = .bool (fstB comp i j) ∧ Hid (j + kq = i ∧ w' = wr0))
      case atStart => exact ⟨0, rfl, rfl, Lib.hid ⟨by omega, rfl⟩⟩
      case round =>
        obtain ⟨j, rfl, rfl, hI⟩ := hrel
        obtain ⟨hji, hw⟩ := hI.out
        subst hw
        clear hI
        by_cases hj : j < i
        · obtain ⟨k2, rfl⟩ : ∃ k2, gk = k2 + 1 := ⟨gk - 1, by omega⟩
          have hin := HIK.out.2.2.1
          obtain ⟨_, Bj, cBj, hbe, cj, cjx⟩ := HCR.out j (by omega)
          cases hbe
          have ci := HCI.out
          have x1 := HCX.out j (by omega)
          have x2 := cjx i hin
          have hmu := mut_iff HCO.out hin (show j < n by omega)
          have hsu := fstB_succ (comp := comp) (i := i) (j := j) (by have := HIK.out.2.2.2; omega)
          obtain ⟨r1, hr1⟩ : ∃ r1, rB (PE sl R) i j = r1 := ⟨_, rfl⟩
          obtain ⟨r2, hr2⟩ : ∃ r2, rB (PE sl R) j i = r2 := ⟨_, rfl⟩
          obtain ⟨fb, hfb⟩ : ∃ fb, fstB comp i j = fb := ⟨_, rfl⟩
          rw [hr1] at x1 hmu
          rw [hr2] at x2 hmu
          rw [hfb] at hsu ⊢
          have hnew : fstB comp i (j + 1) = (fb && !(r1 && r2)) := by rw [hsu, hmu]; simp
          have HNW := Lib.hid hnew
          have HJ := Lib.hid hji
          have k0 : (0 : Int) ≤ (j : Int) := by omega
          have k1' : (j : Int) < (i : Int) := by omega
          have k3 : (j : Int) < (n : Int) := by omega
          clear hmu hsu hnew hr1 hr2 hfb cjx hji hj
          cases fb <;> cases r1 <;> cases r2
          all_goals go_wp2
          all_goals go_roundg k2
          all_goals first
            | (have := HJ.out; omega)
            | exact ⟨j + 1, by go_num, by rw [HNW.out]; rfl, Lib.hid ⟨by have := HJ.out; omega, rfl⟩⟩
        · obtain rfl : i = j := by omega
          clear hji hj
          cases hfb : fstB comp i i with
          | false =>
            have hin : comp.getD i 0 < q := HF3.out.2 (.inr (Classical.byContradiction fun h => by rw [fstB_iff.2 h] at hfb; cases hfb))
            have hfo := HF1.out
            rw [if_pos hin] at hfo
            have HFO := Lib.hid hfo
            clear hfb hin hfo
            go_wp2
            go_roundg k1
            case measure => have := HIK.out.1; omega
            case rel => exact ⟨i + 1, q, by go_num, Lib.hid ⟨by have := HIK.out.1; omega, by have := HIK.out.2.1; omega, HFO.out, vals, HO.out, HZ.out⟩⟩
          | true =>
            have hni := fstB_iff.1 hfb
            have hnq : ¬ comp.getD i 0 < q := fun h => by
              rcases HF3.out.1 h with h | h
              · omega
              · exact hni h
            have hq : comp.getD i 0 = q := by have := HF2.out; omega
            have hfo := HF1.out
            rw [if_neg hnq] at hfo
            have hg0 := grpZ_none (sl := sl) hfb
            rw [hq] at hg0
            have hmu : ∀ j, j < n → (rB (PE sl R) i j && rB (PE sl R) j i) = decide (comp.getD j 0 = q) := fun j hj => by rw [mut_iff HCO.out HIK.out.2.2.1 hj, hq]
            have HFO := Lib.hid hfo
            have HG0 := Lib.hid hg0
            have HMU := Lib.hid hmu
            clear hfb hni hnq hq hfo hg0 hmu HF1 HF2 HF3
            obtain ⟨wz, hwz⟩ : ∃ wz, wr = wz := ⟨_, rfl⟩
            rw [hwz] at HO HZ HCI HCX HCR HVW HXW q0 ⊢
            clear hwz
            go_wp2_with fail
            go_loopg [8, 9] (n - i) (fun kq v8 v9 w' => ∃ j : Nat, v9 = .int .i64 (j : Int) ∧ Hid (j + kq = n ∧ i ≤ j ∧ One wz 3 1 v8 (grpZ (comp.take j) (sl.take j) q).length (ints (grpZ (comp.take j) (sl.take j) q)) w'))
            case atStart => exact ⟨i, rfl, Lib.hid ⟨by have := HIK.out.2.2.1; omega, Nat.le_refl _, by rw [HG0.out]; exact One.start⟩⟩
            case round =>
              clear q0
              obtain ⟨j, rfl, hI⟩ := hrel
              obtain ⟨hjk, hij, hO8⟩ := hI.out
              clear hI
              have q0 := (HXW.out.below hO8.b HXW.out.lt).cell 0 rfl
              by_cases hj : j < n
              · obtain ⟨k2, rfl⟩ : ∃ k2, gk = k2 + 1 := ⟨gk - 1, by omega⟩
                obtain ⟨_, Bj, cBj, hbe, cj, cjx⟩ := (HCR.out.below hO8.b) j hj
                cases hbe
                have ci := keep_at hO8.b HCI.out
                have x1 := keep_at hO8.b (HCX.out j hj)
                have x2 := cjx i HIK.out.2.2.1
                have hmu := HMU.out j hj
                obtain ⟨y, hy⟩ : ∃ y, sl[j]? = some y := ⟨_, List.getElem?_eq_getElem (by have := HN.out; omega)⟩
                obtain ⟨ba, rfl, cy⟩ := (RdI.below HVW.out hO8.b) j y hy
                have hup := grpZ_up (comp := comp) (sl := sl) (c := q) (j := j) (by have := HIK.out.2.2.2; omega) (by have := HN.out; omega)
                rw [show sl.getD j 0 = y by rw [List.getD_eq_getElem?_getD, hy]; rfl] at hup
                obtain ⟨r1, hr1⟩ : ∃ r1, rB (PE sl R) i j = r1 := ⟨_, rfl⟩
                obtain ⟨r2, hr2⟩ : ∃ r2, rB (PE sl R) j i = r2 := ⟨_, rfl⟩
                rw [hr1] at x1 hmu
                rw [hr2] at x2 hmu
                obtain ⟨g8, hg8⟩ : ∃ g8, grpZ (comp.take j) (sl.take j) q = g8 := ⟨_, rfl⟩
                have hg8n : g8.length ≤ 1000 := by
                  rw [← hg8]
                  refine Nat.le_trans (grpZ_length _ _ _) ?_
                  rw [List.length_take]
                  omega
                rw [hg8] at hO8 hup
                have HO8 := Lib.hid hO8
                have HUP := Lib.hid hup
                have HJ := Lib.hid (show j + (k2 + 1) = n ∧ i ≤ j from ⟨hjk, hij⟩)
                have k0 : (0 : Int) ≤ (j : Int) := by omega
                have k1' : (j : Int) < (n : Int) := by omega
                by_cases hjq : comp.getD j 0 = q
                · rw [decide_eq_true hjq] at hmu
                  have hr12 := Bool.and_eq_true_iff.1 hmu
                  have HQ := Lib.hid hjq
                  rw [hr12.1] at x1
                  rw [hr12.2] at x2
                  clear hmu hr1 hr2 hr12 cjx hjk hij hj hjq hup hO8 hg8 hy r1 r2
                  go_wp2_with ((at_builtin; (refine wpList_append_any rfl (.tmp 70) (.tmp 76) 24 rfl wz.heap.size 3 i1 (.int .i64 0) 1 8 Try.underlying24 hi1 hz1 hs1 hy1 rfl (by omega) _ _ _ rfl (HO8.out.r.alloc (.cells #[.int .i64 y] 3)) _ rfl 1 [.int .i64 y] (RdV.lit wr #[.int .i64 y] 3 1 1 1 rfl (by simp [Value.oneCell'])) (by unfold maxLen; omega) (by omega) (by have := HO8.out.b.size; simp; omega) ?_; intro v8 w8 ho hg hn; have hone := (HO8.out.below ((Below.refl _ _).alloc (Nat.le_refl _) (.cells #[.int .i64 y] 3))).grow ho hg; have HO9 := Lib.hid hone; clear ho hg hn hone HO8)))
                  go_roundg k2
                  case measure => have := HJ.out.1; omega
                  case rel =>
                    refine ⟨j + 1, by go_num, Lib.hid ⟨by have := HJ.out.1; omega, by have := HJ.out.2; omega, ?_⟩⟩
                    rw [HUP.out, if_pos HQ.out, List.length_append, List.length_singleton, ← ints_snoc]
                    exact HO9.out
                · rw [decide_eq_false hjq] at hmu
                  have HQ := Lib.hid hjq
                  clear hr1 hr2 cjx hjk hij hj hjq hup hO8 hg8 hy
                  have HREL := Lib.hid (show One wz 3 1 u8 (grpZ (comp.take (j + 1)) (sl.take (j + 1)) q).length (ints (grpZ (comp.take (j + 1)) (sl.take (j + 1)) q)) wr by
                    rw [HUP.out, if_neg HQ.out, List.append_nil]; exact HO8.out)
                  cases r1 <;> cases r2
                  case true.true => cases hmu
                  all_goals clear hmu
                  all_goals go_wp2
                  all_goals go_roundg k2
                  all_goals first
                    | (have := HJ.out.1; omega)
                    | exact ⟨j + 1, by go_num, Lib.hid ⟨by have := HJ.out.1; omega, by have := HJ.out.2; omega, HREL.out⟩⟩
              · obtain rfl : n = j := by omega
                rw [List.take_of_length_le (by have := HIK.out.2.2.2; omega), List.take_of_length_le (by have := HN.out; omega)] at hO8
                obtain ⟨A8, c8, rfl⟩ := own_slice hO8.r
                have hzn := HZ.out.snoc hO8.b (Nat.le_refl _) HO.out.b.size hO8.r
                have hrg : (List.range q).map (grpZ comp sl) ++ [grpZ comp sl q] = (List.range (q + 1)).map (grpZ comp sl) := by rw [List.range_succ, List.map_append]; rfl
                rw [hrg] at hzn
                obtain ⟨n8, hn8⟩ : ∃ n8, (grpZ comp sl q).length = n8 := ⟨_, rfl⟩
                rw [hn8] at hzn ⊢
                have HZN := Lib.hid hzn
                have HON := Lib.hid (HO.out.below hO8.b)
                have hqn : q ≤ 1000 := by have := HIK.out.2.1; omega
                clear hO8 hzn hrg hn8 hjk hij hj
                go_wp2_with ((at_builtin; (refine wpList_append_any rfl (.tmp 78) (.tmp 80) 95 rfl w1.heap.size 24 i3 (.slice none 0 0) 1 24 Try.underlying95 hi3 hz3 hs3 hy3 rfl (by omega) _ _ _ rfl (HON.out.r.alloc (.cells #[.slice A8 n8 c8] 24)) _ rfl 1 [.slice A8 n8 c8] (RdV.lit wr #[.slice A8 n8 c8] 24 1 1 1 rfl (by simp [Value.oneCell'])) (by unfold maxLen; omega) (by omega) (by have := HON.out.b.size; simp; omega) ?_; intro v4 w4 ho hg hn; have hone := (HON.out.below ((Below.refl _ _).alloc (Nat.le_refl _) (.cells #[.slice A8 n8 c8] 24))).grow ho hg; have hzz := (HZN.out.below ((Below.refl _ _).alloc (Nat.le_refl _) (.cells #[.slice A8 n8 c8] 24))).other (HON.out.r.alloc (.cells #[.slice A8 n8 c8] 24)) (by decide) hg; have HO4 := Lib.hid hone; have HZ4 := Lib.hid hzz; clear ho hg hn hone hzz)))
                go_roundg k1
                case measure => have := HIK.out.1; omega
                case rel => exact ⟨i + 1, q + 1, by go_num, Lib.hid ⟨by have := HIK.out.1; omega, by have := HIK.out.2.1; omega, HFO.out, _, HO4.out, HZ4.out⟩⟩
    · obtain rfl : n = i := by omega
      rw [List.take_of_length_le (by omega)] at hfo
      obtain rfl : m = q := Option.some.inj (HCO.out.2.1.symm.trans hfo)
      obtain ⟨A', c', rfl⟩ := own_slice hO.r
      have hvl : vals.length = m := by have := hO.r.1; omega
      have hrd : RdL wr A' (ofL comp sl m) := by
        intro k r hk
        have hkm : k < m := by have := (List.getElem?_eq_some_iff.1 hk).1; simpa [ofL] using this
        obtain ⟨g, rfl, _, hcc⟩ := cell_flat hO.r (by omega)
        obtain ⟨u, hu⟩ : ∃ u, vals[k]? = some u := ⟨_, List.getElem?_eq_getElem (by omega)⟩
        obtain ⟨B, cB, rfl, hrb⟩ := hZ.rd hu hk
        exact ⟨g, B, cB, rfl, hcc k _ hu, hrb⟩
      have HRD := Lib.hid hrd
      have HO := Lib.hid hO
      clear hO hZ hvl hrd hfo hik hqi hcn hi
      go_wp2
      go_ret
      exact ⟨A', c', rfl, HRD.out, HB1.out.trans (HO.out.b.mono HB1.out.size)⟩

end Go.Proofs.Ytdohfjidnbhfnaa.Lw

/- The references' Acyclic, walked. -/
namespace Go.Proofs.Ytdohfjidnbhfnaa.Lw
open Go Go.RowKit Go.Proofs.Ytdohfjidnbhfnaa.Mem Go.Proofs.Ytdohfjidnbhfnaa.Sl Go.Proofs.Ytdohfjidnbhfnaa.Scc Go.Proofs.Ytdohfjidnbhfnaa.Tj Go.Proofs.YtdohfjidnbhfnaaW.PrintWords Go.Proofs.YtdohfjidnbhfnaaW.PrintLast
attribute [local go_sem ↓] Go.wp_at_zero Go.wp_at_succ
set_option linter.unusedSimpArgs false
set_option linter.unusedVariables false

def tb30_4.T4 : Bool × List (List Nat × List Nat) := (true, [([], []), ([0], [0]), ([], []), ([1, 2], [1, 2]), ([3], [3]), ([4], [4]), ([], []), ([6], [6]), ([], []), ([7, 8], [7, 8]), ([9], [9]), ([10], [10]), ([5, 11], [5, 11])])
def tb30_4.B4 : List Nat := [0, 1, 0, 7, 15, 31, 0, 64, 0, 448, 960, 1984, 4095]
theorem tb30_4.tab4 : rtab .any (opsOf Try.f30 4) = tb30_4.T4 := by kernel_rfl
theorem tb30_4.bits4 : waitsOk tb30_4.T4.2 tb30_4.B4 = true := by kernel_rfl
def tb30_6.T6 : Bool × List (List Nat × List Nat) := (true, [([], []), ([0], [0]), ([1], [1]), ([], []), ([3], [3]), ([4], [4]), ([2, 5], [2, 5]), ([6, 1, 0, 1, 2, 3, 4, 5, 6], [6])])
def tb30_6.B6 : List Nat := [0, 1, 3, 0, 8, 24, 63, 127]
theorem tb30_6.tab6 : rtab .any (opsOf Try.f30 6) = tb30_6.T6 := by kernel_rfl
theorem tb30_6.bits6 : waitsOk tb30_6.T6.2 tb30_6.B6 = true := by kernel_rfl
set_option maxHeartbeats 8000000 in
set_option maxRecDepth 100000 in
theorem acyR_calls (w : World) (A AE : Option Addr) (cg ce m : Nat) (sl : List Int) (R : List (Int × Int)) (comp : List Nat) (hv : RdI w A sl) (he : RdE w AE R) (hs : sl.Pairwise (· < ·)) (hgood : good sl R = true) (hco : CompOf sl.length (PE sl R) comp m) (hl : sl.length ≤ 1000) (hr : R.length ≤ 100000) :
    Calls Try.prog 30 #[gV A sl.length cg (.slice AE R.length ce)] w fun e w' => e = .returned (.bool (acyB R m sl.length)) ∧ Below w.heap.size w w' := by
  obtain ⟨n, hn⟩ : ∃ n, sl.length = n := ⟨_, rfl⟩
  have hof := fun (W : World) (hW : Below w.heap.size w W) => ofR_calls W A AE cg ce m sl R comp (hv.below hW) (he.below hW) hs hgood hco hl hr
  rw [hn] at hl hof ⊢
  obtain ⟨ans, hans⟩ : ∃ ans, acyB R m n = ans := ⟨_, rfl⟩
  rw [hans]
  unfold gV at hof ⊢
  have HE := Lib.hid he
  have HOFW := Lib.hid hof
  have HANS := Lib.hid hans
  clear hv he hs hgood hn hco hof hans
  go_enter Try.func30, Try.ntmps30
  go_wp2_with fail
  refine gen_loopw (fun W => At W w.heap.size [.slice A n cg, .slice AE R.length ce, .int .i64 0, .int .i64 0] 27 ∧ Below w.heap.size w W) ?_ ?_
  · exact ⟨At.made rfl rfl, (Below.refl _ _).alloc (Nat.le_refl _) _⟩
  obtain ⟨gx, hgx⟩ : ∃ gx, w.heap.size = gx := ⟨_, rfl⟩
  rw [hgx]
  rintro w3 ⟨hat, hb⟩
  rw [← hgx] at hb
  have HAT := Lib.hid hat
  have HB := Lib.hid hb
  clear hat hb hgx
  go_loopg [3] R.length (fun kq v3 w' => ∃ j : Nat, v3 = .int .i64 (j : Int) ∧ Hid (j + kq = R.length ∧ (∃ q, w' = w3.drewN q) ∧ (R.take j).all (fun p => decide (p.1 ≠ p.2)) = true))
  case atStart => exact ⟨0, rfl, Lib.hid ⟨by omega, ⟨0, rfl⟩, by simp⟩⟩
  case round =>
    obtain ⟨j, rfl, hI⟩ := hrel
    obtain ⟨hjk, ⟨q, rfl⟩, hall⟩ := hI.out
    clear hI
    have q1 : (w3.drewN q).cell? ⟨gx, 1, none⟩ = some (.slice AE R.length ce) := HAT.out.cell 1 rfl
    by_cases hj : j < R.length
    · obtain ⟨k1, rfl⟩ : ∃ k1, gk = k1 + 1 := ⟨gk - 1, by omega⟩
      obtain ⟨⟨u, v⟩, hxx⟩ : ∃ x, R[j] = x := ⟨_, rfl⟩
      have hx : R[j]? = some (u, v) := by rw [List.getElem?_eq_getElem hj, hxx]
      obtain ⟨be, rfl, qu', qv'⟩ := (HE.out.below HB.out) j u v hx
      have qu : (w3.drewN q).cell? ⟨be, j * 4 + 1, none⟩ = some (.int .i64 u) := qu'
      have qv : (w3.drewN q).cell? ⟨be, j * 4 + 2, none⟩ = some (.int .i64 v) := qv'
      have hsn : (R.take (j + 1)).all (fun p => decide (p.1 ≠ p.2)) = ((R.take j).all (fun p => decide (p.1 ≠ p.2)) && decide (u ≠ v)) := by rw [List.take_add_one, hx, List.all_append]; simp
      have j0 : (0 : Int) ≤ (j : Int) := by omega
      have j1 : (j : Int) < (R.length : Int) := by omega
      have j2 : (R.length : Int) ≤ 100000 := by omega
      by_cases huv : u = v
      · subst huv
        have HA := Lib.hid (show ans = false by
          rw [← HANS.out, acyB, if_neg]
          intro h
          have := List.all_eq_true.1 h _ (List.mem_of_getElem? hx)
          simp at this)
        have hb := HB.out
        have HBX := Lib.hid hb
        clear hsn hx hxx hall hjk qu' qv' hj hb
        go_upto_region 4 with (fail)
        refine start_ (n := 13) (S := fun w' => w'.cell? ⟨gx, 1, none⟩ = some (.slice (some ⟨be, 0, none⟩) R.length ce) ∧ w'.cell? ⟨be, j * 4 + 1, none⟩ = some (.int .i64 u) ∧ w'.cell? ⟨be, j * 4 + 2, none⟩ = some (.int .i64 u)) (ds := []) (bA 13 0) (by kernel_rfl) rfl rfl ⟨q1, qu, qv⟩ (fun hHeld => ?_)
        refine with_tabW tb30_4.tab4 tb30_4.bits4 (fun HT_ HW_ => ?_)
        refine pure_ (i := 0) (N := some 11) (v := ?_) (a' := ?_) (bA 13 1) rfl rfl (any_of HT_.out (by kernel_rfl)) (fun _ _ _ h => h) (Or.inl ⟨by rfl, ?_⟩) ?_ ?_
        rotate_left; · intro w'; go_simp; with_reducible rfl
        rotate_left; · simp only [Act.put, pA, pB, pC, pD, pE]; rfl
        refine pure_ (i := 2) (N := some 13) (v := ?_) (a' := ?_) (bA 13 5) rfl rfl (any_of HT_.out (by kernel_rfl)) (fun _ _ _ h => h) (Or.inl ⟨by rfl, ?_⟩) ?_ ?_
        rotate_left; · intro w'; go_simp; with_reducible rfl
        rotate_left; · simp only [Act.put, pA, pB, pC, pD, pE]; rfl
        refine pure_ (i := 6) (N := some 17) (v := ?_) (a' := ?_) (bA 13 69) rfl rfl (any_of HT_.out (by kernel_rfl)) (fun _ _ _ h => h) (Or.inl ⟨by rfl, ?_⟩) ?_ ?_
        rotate_left; · intro w'; go_simp; with_reducible rfl
        rotate_left; · simp only [Act.put, pA, pB, pC, pD, pE]; rfl
        refine pure_ (i := 8) (N := some 19) (v := ?_) (a' := ?_) (bA 13 325) rfl rfl (any_of HT_.out (by kernel_rfl)) (fun _ _ _ h => h) (Or.inl ⟨by rfl, ?_⟩) ?_ ?_
        rotate_left; · intro w'; go_simp; with_reducible rfl
        rotate_left; · simp only [Act.put, pA, pB, pC, pD, pE]; rfl
        refine take_ (i := 1) (N := some 12) (v := ?_) (a' := ?_) (bA 13 327) rfl rfl (take_ofW HT_.out HW_.out (by kernel_rfl)) (fun _ _ _ h => h) (Or.inl ⟨by rfl, ?_⟩) hHeld ?_ ?_
        rotate_left
        · rintro w' ⟨s0, s1, s2⟩
          go_simp; with_reducible rfl
        rotate_left; · simp only [Act.put, pA, pB, pC, pD, pE]; rfl
        refine pure_ (i := 3) (N := some 14) (v := ?_) (a' := ?_) (bA 13 335) rfl rfl (any_of HT_.out (by kernel_rfl)) (fun _ _ _ h => h) (Or.inl ⟨by rfl, ?_⟩) ?_ ?_
        rotate_left; · intro w'; go_simp; with_reducible rfl
        rotate_left; · simp only [Act.put, pA, pB, pC, pD, pE]; rfl
        refine pure_ (i := 4) (N := some 15) (v := ?_) (a' := ?_) (bA 13 351) rfl rfl (any_of HT_.out (by kernel_rfl)) (fun _ _ _ h => h) (Or.inl ⟨by rfl, ?_⟩) ?_ ?_
        rotate_left; · intro w'; go_simp; with_reducible rfl
        rotate_left; · simp only [Act.put, pA, pB, pC, pD, pE]; rfl
        refine take_ (i := 5) (N := some 16) (v := ?_) (a' := ?_) (bA 13 383) rfl rfl (take_ofW HT_.out HW_.out (by kernel_rfl)) (fun _ _ _ h => h) (Or.inl ⟨by rfl, ?_⟩) hHeld ?_ ?_
        rotate_left
        · rintro w' ⟨s0, s1, s2⟩
          go_simp; with_reducible rfl
        rotate_left; · simp only [Act.put, pA, pB, pC, pD, pE]; rfl
        refine take_ (i := 7) (N := some 18) (v := ?_) (a' := ?_) (bA 13 511) rfl rfl (take_ofW HT_.out HW_.out (by kernel_rfl)) (fun _ _ _ h => h) (Or.inl ⟨by rfl, ?_⟩) hHeld ?_ ?_
        rotate_left
        · rintro w' ⟨s0, s1, s2⟩
          go_simp; with_reducible rfl
        rotate_left; · simp only [Act.put, pA, pB, pC, pD, pE]; rfl
        refine pure_ (i := 9) (N := some 20) (v := ?_) (a' := ?_) (bA 13 1023) rfl rfl (any_of HT_.out (by kernel_rfl)) (fun _ _ _ h => h) (Or.inl ⟨by rfl, ?_⟩) ?_ ?_
        rotate_left; · intro w'; go_simp; with_reducible rfl
        rotate_left; · simp only [Act.put, pA, pB, pC, pD, pE]; rfl
        refine pure_ (i := 10) (N := some 21) (v := ?_) (a' := ?_) (bA 13 2047) rfl rfl (any_of HT_.out (by kernel_rfl)) (fun _ _ _ h => h) (Or.inl ⟨by rfl, ?_⟩) ?_ ?_
        rotate_left; · intro w'; go_simp; with_reducible rfl
        rotate_left; · simp only [Act.put, pA, pB, pC, pD, pE]; rfl
        refine take_ (i := 11) (N := some 22) (v := ?_) (a' := ?_) (bA 13 4095) rfl rfl (take_ofW HT_.out HW_.out (by kernel_rfl)) (fun _ _ _ h => h) (Or.inl ⟨by rfl, ?_⟩) hHeld ?_ ?_
        rotate_left
        · rintro w' ⟨s0, s1, s2⟩
          go_simp; with_reducible rfl
        rotate_left; · simp only [Act.put, pA, pB, pC, pD, pE]; rfl
        refine pure_ (i := 12) (N := some 23) (v := ?_) (a' := ?_) (bA 13 8191) rfl rfl (any_of HT_.out (by kernel_rfl)) (fun _ _ _ h => h) (Or.inl ⟨by rfl, ?_⟩) ?_ ?_
        rotate_left; · intro w'; go_simp; with_reducible rfl
        rotate_left; · simp only [Act.put, pA, pB, pC, pD, pE]; rfl
        refine done_ (done_of HT_.out (by kernel_rfl)) ?_
        clear hHeld HT_ HW_
        go_wp2
        go_ret
        have hb := HBX.out
        exact ⟨by rw [HA.out]; rfl, ⟨hb.os, hb.tape, hb.output, hb.size, hb.block⟩⟩
      · have e1 : (u == v) = false := beq_eq_false_iff_ne.2 huv
        have HSN := Lib.hid (show (R.take (j + 1)).all (fun p => decide (p.1 ≠ p.2)) = true by rw [hsn, hall]; simpa using huv)
        have HJK := Lib.hid hjk
        clear hsn hx hxx hall hjk qu' qv' hj huv
        go_upto_region 4 with (fail)
        refine start_ (n := 13) (S := fun w' => w'.cell? ⟨gx, 1, none⟩ = some (.slice (some ⟨be, 0, none⟩) R.length ce) ∧ w'.cell? ⟨be, j * 4 + 1, none⟩ = some (.int .i64 u) ∧ w'.cell? ⟨be, j * 4 + 2, none⟩ = some (.int .i64 v)) (ds := []) (bA 13 0) (by kernel_rfl) rfl rfl ⟨q1, qu, qv⟩ (fun hHeld => ?_)
        refine with_tabW tb30_4.tab4 tb30_4.bits4 (fun HT_ HW_ => ?_)
        refine pure_ (i := 0) (N := some 11) (v := ?_) (a' := ?_) (bA 13 1) rfl rfl (any_of HT_.out (by kernel_rfl)) (fun _ _ _ h => h) (Or.inl ⟨by rfl, ?_⟩) ?_ ?_
        rotate_left; · intro w'; go_simp; with_reducible rfl
        rotate_left; · simp only [Act.put, pA, pB, pC, pD, pE]; rfl
        refine pure_ (i := 2) (N := some 13) (v := ?_) (a' := ?_) (bA 13 5) rfl rfl (any_of HT_.out (by kernel_rfl)) (fun _ _ _ h => h) (Or.inl ⟨by rfl, ?_⟩) ?_ ?_
        rotate_left; · intro w'; go_simp; with_reducible rfl
        rotate_left; · simp only [Act.put, pA, pB, pC, pD, pE]; rfl
        refine pure_ (i := 6) (N := some 17) (v := ?_) (a' := ?_) (bA 13 69) rfl rfl (any_of HT_.out (by kernel_rfl)) (fun _ _ _ h => h) (Or.inl ⟨by rfl, ?_⟩) ?_ ?_
        rotate_left; · intro w'; go_simp; with_reducible rfl
        rotate_left; · simp only [Act.put, pA, pB, pC, pD, pE]; rfl
        refine pure_ (i := 8) (N := some 19) (v := ?_) (a' := ?_) (bA 13 325) rfl rfl (any_of HT_.out (by kernel_rfl)) (fun _ _ _ h => h) (Or.inl ⟨by rfl, ?_⟩) ?_ ?_
        rotate_left; · intro w'; go_simp; with_reducible rfl
        rotate_left; · simp only [Act.put, pA, pB, pC, pD, pE]; rfl
        refine take_ (i := 1) (N := some 12) (v := ?_) (a' := ?_) (bA 13 327) rfl rfl (take_ofW HT_.out HW_.out (by kernel_rfl)) (fun _ _ _ h => h) (Or.inl ⟨by rfl, ?_⟩) hHeld ?_ ?_
        rotate_left
        · rintro w' ⟨s0, s1, s2⟩
          go_simp; with_reducible rfl
        rotate_left; · simp only [Act.put, pA, pB, pC, pD, pE]; rfl
        refine pure_ (i := 3) (N := some 14) (v := ?_) (a' := ?_) (bA 13 335) rfl rfl (any_of HT_.out (by kernel_rfl)) (fun _ _ _ h => h) (Or.inl ⟨by rfl, ?_⟩) ?_ ?_
        rotate_left; · intro w'; go_simp; with_reducible rfl
        rotate_left; · simp only [Act.put, pA, pB, pC, pD, pE]; rfl
        refine pure_ (i := 4) (N := some 15) (v := ?_) (a' := ?_) (bA 13 351) rfl rfl (any_of HT_.out (by kernel_rfl)) (fun _ _ _ h => h) (Or.inl ⟨by rfl, ?_⟩) ?_ ?_
        rotate_left; · intro w'; go_simp; with_reducible rfl
        rotate_left; · simp only [Act.put, pA, pB, pC, pD, pE]; rfl
        refine take_ (i := 5) (N := some 16) (v := ?_) (a' := ?_) (bA 13 383) rfl rfl (take_ofW HT_.out HW_.out (by kernel_rfl)) (fun _ _ _ h => h) (Or.inl ⟨by rfl, ?_⟩) hHeld ?_ ?_
        rotate_left
        · rintro w' ⟨s0, s1, s2⟩
          go_simp; with_reducible rfl
        rotate_left; · simp only [Act.put, pA, pB, pC, pD, pE]; rfl
        refine take_ (i := 7) (N := some 18) (v := ?_) (a' := ?_) (bA 13 511) rfl rfl (take_ofW HT_.out HW_.out (by kernel_rfl)) (fun _ _ _ h => h) (Or.inl ⟨by rfl, ?_⟩) hHeld ?_ ?_
        rotate_left
        · rintro w' ⟨s0, s1, s2⟩
          go_simp; with_reducible rfl
        rotate_left; · simp only [Act.put, pA, pB, pC, pD, pE]; rfl
        refine pure_ (i := 9) (N := some 20) (v := ?_) (a' := ?_) (bA 13 1023) rfl rfl (any_of HT_.out (by kernel_rfl)) (fun _ _ _ h => h) (Or.inl ⟨by rfl, ?_⟩) ?_ ?_
        rotate_left; · intro w'; go_simp; with_reducible rfl
        rotate_left; · simp only [Act.put, pA, pB, pC, pD, pE]; rfl
        refine pure_ (i := 10) (N := some 21) (v := ?_) (a' := ?_) (bA 13 2047) rfl rfl (any_of HT_.out (by kernel_rfl)) (fun _ _ _ h => h) (Or.inl ⟨by rfl, ?_⟩) ?_ ?_
        rotate_left; · intro w'; go_simp; with_reducible rfl
        rotate_left; · simp only [Act.put, pA, pB, pC, pD, pE]; rfl
        refine take_ (i := 11) (N := some 22) (v := ?_) (a' := ?_) (bA 13 4095) rfl rfl (take_ofW HT_.out HW_.out (by kernel_rfl)) (fun _ _ _ h => h) (Or.inl ⟨by rfl, ?_⟩) hHeld ?_ ?_
        rotate_left
        · rintro w' ⟨s0, s1, s2⟩
          go_simp; with_reducible rfl
        rotate_left; · simp only [Act.put, pA, pB, pC, pD, pE]; rfl
        refine pure_ (i := 12) (N := some 23) (v := ?_) (a' := ?_) (bA 13 8191) rfl rfl (any_of HT_.out (by kernel_rfl)) (fun _ _ _ h => h) (Or.inl ⟨by rfl, ?_⟩) ?_ ?_
        rotate_left; · intro w'; go_simp; with_reducible rfl
        rotate_left; · simp only [Act.put, pA, pB, pC, pD, pE]; rfl
        refine done_ (done_of HT_.out (by kernel_rfl)) ?_
        clear hHeld HT_ HW_; clear q1 qu qv
        go_wp2
        go_roundg k1
        case measure => have := HJK.out; omega
        case rel => exact ⟨j + 1, by go_num, Lib.hid ⟨by have := HJK.out; omega, ⟨q + 1, rfl⟩, HSN.out⟩⟩
    · obtain rfl : j = R.length := by omega
      rw [List.take_length] at hall
      have HA := Lib.hid (show ans = decide (m = n) by rw [← HANS.out, acyB, if_pos hall])
      have hbd : Below w.heap.size w (w3.drewN q).drew := ⟨HB.out.os, HB.out.tape, HB.out.output, HB.out.size, HB.out.block⟩
      have HOF := Lib.hid (HOFW.out _ hbd)
      have q0 : (w3.drewN q).cell? ⟨gx, 0, none⟩ = some (.slice A n cg) := HAT.out.cell 0 rfl
      have q2 : (w3.drewN q).cell? ⟨gx, 2, none⟩ = some (.int .i64 0) := HAT.out.cell 2 rfl
      have q3 : (w3.drewN q).cell? ⟨gx, 3, none⟩ = some (.int .i64 0) := HAT.out.cell 3 rfl
      have HBD := Lib.hid hbd
      obtain ⟨wr, hwr⟩ : ∃ wr, w3.drewN q = wr := ⟨_, rfl⟩
      rw [hwr] at q0 q1 q2 q3 HOF HBD ⊢
      clear hall hjk hj hbd hwr HOFW
      by_cases hmn : m = n
      · have e1 : ((m : Int) == (n : Int)) = true := by rw [hmn]; simp
        go_upto_region 6 with (fail)
        refine start_ (n := 8) (S := fun w' => w'.cell? ⟨gx, 0, none⟩ = some (.slice A n cg) ∧ w'.cell? ⟨gx, 1, none⟩ = some (.slice AE R.length ce) ∧ w'.cell? ⟨gx, 2, none⟩ = some (.int .i64 0) ∧ w'.cell? ⟨gx, 3, none⟩ = some (.int .i64 0)) (ds := []) (bA 8 0) (by kernel_rfl) rfl rfl ⟨q0, q1, q2, q3⟩ (fun hHeld => ?_)
        refine with_tabW tb30_6.tab6 tb30_6.bits6 (fun HT_ HW_ => ?_)
        refine pure_ (i := 3) (N := some 27) (v := ?_) (a' := ?_) (bA 8 8) rfl rfl (any_of HT_.out (by kernel_rfl)) (fun _ _ _ h => h) (Or.inl ⟨by rfl, ?_⟩) ?_ ?_
        rotate_left; · intro w'; go_simp; with_reducible rfl
        rotate_left; · simp only [Act.put, pA, pB, pC, pD, pE]; rfl
        refine take_ (i := 0) (N := some 24) (v := ?_) (a' := ?_) (bA 8 9) rfl rfl (take_ofW HT_.out HW_.out (by kernel_rfl)) (fun _ _ _ h => h) (Or.inl ⟨by rfl, ?_⟩) hHeld ?_ ?_
        rotate_left
        · rintro w' ⟨s0, s1, s2, s3⟩
          go_simp; with_reducible rfl
        rotate_left; · simp only [Act.put, pA, pB, pC, pD, pE]; rfl
        refine take_ (i := 4) (N := some 28) (v := ?_) (a' := ?_) (bA 8 25) rfl rfl (take_ofW HT_.out HW_.out (by kernel_rfl)) (fun _ _ _ h => h) (Or.inl ⟨by rfl, ?_⟩) hHeld ?_ ?_
        rotate_left
        · rintro w' ⟨s0, s1, s2, s3⟩
          go_simp; with_reducible rfl
        rotate_left; · simp only [Act.put, pA, pB, pC, pD, pE]; rfl
        refine pure_ (i := 5) (N := some 29) (v := ?_) (a' := ?_) (bA 8 57) rfl rfl (any_of HT_.out (by kernel_rfl)) (fun _ _ _ h => h) (Or.inl ⟨by rfl, ?_⟩) ?_ ?_
        rotate_left; · intro w'; go_simp; with_reducible rfl
        rotate_left; · simp only [Act.put, pA, pB, pC, pD, pE]; rfl
        refine one_ (i := 1) (N := some 25) (bA 8 59) rfl rfl (one_of HT_.out (by kernel_rfl)) (by decide) (fun K hK => ?_)
        refine goes_ Try.func49 (by kernel_rfl) rfl #[.agg #[.slice A n cg, .slice AE R.length ce, .int .i64 0, .int .i64 0]] (by rfl) rfl rfl (by simp only [List.map_toArray, List.map_cons, List.map_nil]; rfl) ?_
        with_reducible refine (HOF.out).mono ?_
        rintro e wa ⟨A9, c9, rfl, _, hba⟩
        refine ⟨_, rfl, ?_⟩
        have hbw : Below wr.heap.size wr wa := ⟨hba.os, hba.tape, hba.output, hba.size, hba.block⟩
        refine hK.out _ _ ⟨(keep_at hbw q0), (keep_at hbw q1), (keep_at hbw q2), (keep_at hbw q3)⟩ (fun hHeld => ?_)
        clear hK K
        refine norm_ (a' := ?_) ?_ ?_
        rotate_left
        · show Act.put _ (some 25) _ = _
          simp only [Act.put, pA, pB, pC, pD, pE]; rfl
        refine pure_ (i := 2) (N := some 26) (v := ?_) (a' := ?_) (bA 8 63) rfl rfl (any_of HT_.out (by kernel_rfl)) (fun _ _ _ h => h) (Or.inl ⟨by rfl, ?_⟩) ?_ ?_
        rotate_left; · intro w'; go_simp; with_reducible rfl
        rotate_left; · simp only [Act.put, pA, pB, pC, pD, pE]; rfl
        refine pure_ (i := 6) (N := some 30) (v := ?_) (a' := ?_) (bA 8 127) rfl rfl (any_of HT_.out (by kernel_rfl)) (fun _ _ _ h => h) (Or.inl ⟨by rfl, ?_⟩) ?_ ?_
        rotate_left; · intro w'; go_simp; with_reducible rfl
        rotate_left; · simp only [Act.put, pA, pB, pC, pD, pE]; rfl
        refine pure_ (i := 7) (N := some 2) (v := ?_) (a' := ?_) (bA 8 255) rfl rfl (any_of HT_.out (by kernel_rfl)) (fun _ _ _ h => h) (Or.inl ⟨by rfl, ?_⟩) ?_ ?_
        rotate_left; · intro w'; go_simp; with_reducible rfl
        rotate_left; · simp only [Act.put, pA, pB, pC, pD, pE]; rfl
        refine done_ (done_of HT_.out (by kernel_rfl)) ?_
        clear hHeld HT_ HW_
        go_wp2
        go_ret
        exact ⟨by rw [HA.out, decide_eq_true hmn]; rfl, HBD.out.trans (hba.mono HBD.out.size)⟩
      · have e1 : ((m : Int) == (n : Int)) = false := beq_eq_false_iff_ne.2 (by omega)
        go_upto_region 6 with (fail)
        refine start_ (n := 8) (S := fun w' => w'.cell? ⟨gx, 0, none⟩ = some (.slice A n cg) ∧ w'.cell? ⟨gx, 1, none⟩ = some (.slice AE R.length ce) ∧ w'.cell? ⟨gx, 2, none⟩ = some (.int .i64 0) ∧ w'.cell? ⟨gx, 3, none⟩ = some (.int .i64 0)) (ds := []) (bA 8 0) (by kernel_rfl) rfl rfl ⟨q0, q1, q2, q3⟩ (fun hHeld => ?_)
        refine with_tabW tb30_6.tab6 tb30_6.bits6 (fun HT_ HW_ => ?_)
        refine pure_ (i := 3) (N := some 27) (v := ?_) (a' := ?_) (bA 8 8) rfl rfl (any_of HT_.out (by kernel_rfl)) (fun _ _ _ h => h) (Or.inl ⟨by rfl, ?_⟩) ?_ ?_
        rotate_left; · intro w'; go_simp; with_reducible rfl
        rotate_left; · simp only [Act.put, pA, pB, pC, pD, pE]; rfl
        refine take_ (i := 0) (N := some 24) (v := ?_) (a' := ?_) (bA 8 9) rfl rfl (take_ofW HT_.out HW_.out (by kernel_rfl)) (fun _ _ _ h => h) (Or.inl ⟨by rfl, ?_⟩) hHeld ?_ ?_
        rotate_left
        · rintro w' ⟨s0, s1, s2, s3⟩
          go_simp; with_reducible rfl
        rotate_left; · simp only [Act.put, pA, pB, pC, pD, pE]; rfl
        refine take_ (i := 4) (N := some 28) (v := ?_) (a' := ?_) (bA 8 25) rfl rfl (take_ofW HT_.out HW_.out (by kernel_rfl)) (fun _ _ _ h => h) (Or.inl ⟨by rfl, ?_⟩) hHeld ?_ ?_
        rotate_left
        · rintro w' ⟨s0, s1, s2, s3⟩
          go_simp; with_reducible rfl
        rotate_left; · simp only [Act.put, pA, pB, pC, pD, pE]; rfl
        refine pure_ (i := 5) (N := some 29) (v := ?_) (a' := ?_) (bA 8 57) rfl rfl (any_of HT_.out (by kernel_rfl)) (fun _ _ _ h => h) (Or.inl ⟨by rfl, ?_⟩) ?_ ?_
        rotate_left; · intro w'; go_simp; with_reducible rfl
        rotate_left; · simp only [Act.put, pA, pB, pC, pD, pE]; rfl
        refine one_ (i := 1) (N := some 25) (bA 8 59) rfl rfl (one_of HT_.out (by kernel_rfl)) (by decide) (fun K hK => ?_)
        refine goes_ Try.func49 (by kernel_rfl) rfl #[.agg #[.slice A n cg, .slice AE R.length ce, .int .i64 0, .int .i64 0]] (by rfl) rfl rfl (by simp only [List.map_toArray, List.map_cons, List.map_nil]; rfl) ?_
        with_reducible refine (HOF.out).mono ?_
        rintro e wa ⟨A9, c9, rfl, _, hba⟩
        refine ⟨_, rfl, ?_⟩
        have hbw : Below wr.heap.size wr wa := ⟨hba.os, hba.tape, hba.output, hba.size, hba.block⟩
        refine hK.out _ _ ⟨(keep_at hbw q0), (keep_at hbw q1), (keep_at hbw q2), (keep_at hbw q3)⟩ (fun hHeld => ?_)
        clear hK K
        refine norm_ (a' := ?_) ?_ ?_
        rotate_left
        · show Act.put _ (some 25) _ = _
          simp only [Act.put, pA, pB, pC, pD, pE]; rfl
        refine pure_ (i := 2) (N := some 26) (v := ?_) (a' := ?_) (bA 8 63) rfl rfl (any_of HT_.out (by kernel_rfl)) (fun _ _ _ h => h) (Or.inl ⟨by rfl, ?_⟩) ?_ ?_
        rotate_left; · intro w'; go_simp; with_reducible rfl
        rotate_left; · simp only [Act.put, pA, pB, pC, pD, pE]; rfl
        refine pure_ (i := 6) (N := some 30) (v := ?_) (a' := ?_) (bA 8 127) rfl rfl (any_of HT_.out (by kernel_rfl)) (fun _ _ _ h => h) (Or.inl ⟨by rfl, ?_⟩) ?_ ?_
        rotate_left; · intro w'; go_simp; with_reducible rfl
        rotate_left; · simp only [Act.put, pA, pB, pC, pD, pE]; rfl
        refine pure_ (i := 7) (N := some 2) (v := ?_) (a' := ?_) (bA 8 255) rfl rfl (any_of HT_.out (by kernel_rfl)) (fun _ _ _ h => h) (Or.inl ⟨by rfl, ?_⟩) ?_ ?_
        rotate_left; · intro w'; go_simp; with_reducible rfl
        rotate_left; · simp only [Act.put, pA, pB, pC, pD, pE]; rfl
        refine done_ (done_of HT_.out (by kernel_rfl)) ?_
        clear hHeld HT_ HW_
        go_wp2
        go_ret
        exact ⟨by rw [HA.out, decide_eq_false hmn]; rfl, HBD.out.trans (hba.mono HBD.out.size)⟩

end Go.Proofs.Ytdohfjidnbhfnaa.Lw
