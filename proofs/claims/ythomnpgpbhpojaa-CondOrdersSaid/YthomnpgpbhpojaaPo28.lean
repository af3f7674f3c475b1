/- The references' Of, walked. -/
import Derived.Test.YthomnpgpbhpojaaPo27
import Derived.Test.YthomnpgpbhpojaaPo25
namespace Go.Proofs.Ythomnpgpbhpojaa.Lw
open Go Go.RowKit Go.Proofs.Ythomnpgpbhpojaa.Mem Go.Proofs.Ythomnpgpbhpojaa.Sl Go.Proofs.Ythomnpgpbhpojaa.Scc Go.Proofs.Ythomnpgpbhpojaa.Tj Go.Proofs.YthomnpgpbhpojaaW.PrintWords Go.Proofs.YthomnpgpbhpojaaW.PrintLast
attribute [local go_sem ↓] Go.wp_at_zero Go.wp_at_succ
set_option linter.unusedSimpArgs false
set_option linter.unusedVariables false

def fstB (comp : List Nat) (i j : Nat) : Bool := (comp.take j).all fun c => decide (c ≠ comp.getD i 0)
theorem fstB_succ {comp : List Nat} {i j : Nat} (h : j < comp.length) : fstB comp i (j + 1) = (fstB comp i j && decide (comp.getD j 0 ≠ comp.getD i 0)) := by
  unfold fstB
  rw [List.take_add_one, List.getElem?_eq_getElem h, List.all_append]
  have : comp.getD j 0 = comp[j] := by rw [List.getD_eq_getElem?_getD, List.getElem?_eq_getElem h]; rfl
  rw [this]
  simp
theorem grpZ_up {comp : List Nat} {sl : List Int} {c j : Nat} (h1 : j < comp.length) (h2 : j < sl.length) : grpZ (comp.take (j + 1)) (sl.take (j + 1)) c = grpZ (comp.take j) (sl.take j) c ++ (if comp.getD j 0 = c then [sl.getD j 0] else []) := by
  have e1 : comp.getD j 0 = comp[j] := by rw [List.getD_eq_getElem?_getD, List.getElem?_eq_getElem h1]; rfl
  have e2 : sl.getD j 0 = sl[j] := by rw [List.getD_eq_getElem?_getD, List.getElem?_eq_getElem h2]; rfl
  rw [e1, e2]
  unfold grpZ
  rw [List.take_succ_eq_append_getElem h1, List.take_succ_eq_append_getElem h2, List.zip_append (by rw [List.length_take, List.length_take]; omega), List.filter_append, List.map_append]
  congr 1
  by_cases h : comp[j] = c
  · rw [if_pos h]; simp [h]
  · rw [if_neg h]; simp [h]
theorem grpZ_none {comp : List Nat} {sl : List Int} {i : Nat} (h : fstB comp i i = true) : grpZ (comp.take i) (sl.take i) (comp.getD i 0) = [] := by
  unfold grpZ
  rw [List.filter_eq_nil_iff.2 ?_]
  · rfl
  · intro p hp
    have h1 : p.1 ∈ comp.take i := (List.of_mem_zip hp).1
    have h2 := List.all_eq_true.1 h p.1 h1
    simpa using h2
theorem fstB_iff {comp : List Nat} {i : Nat} : fstB comp i i = true ↔ comp.getD i 0 ∉ comp.take i := by
  unfold fstB
  rw [List.all_eq_true]
  exact ⟨fun h hm => by have := h _ hm; simp at this, fun h c hc => by rw [decide_eq_true_eq]; exact fun e => h (e ▸ hc)⟩
theorem fo_take : ∀ (l : List Nat) (k m i : Nat), fo l k = some m → ∃ q, fo (l.take i) k = some q
  | [], k, m, i, h => ⟨k, by rw [List.take_nil]; rfl⟩
  | c :: r, k, m, 0, h => ⟨k, rfl⟩
  | c :: r, k, m, i + 1, h => by
    rw [fo] at h
    rw [List.take_succ_cons, fo]
    split at h
    · rename_i hc
      rw [if_pos hc]
      exact fo_take r k m i h
    · rename_i hc
      rw [if_neg hc]
      split at h
      · rename_i hk
        rw [if_pos hk]
        exact fo_take r (k + 1) m i h
      · cases h
theorem fo_next : ∀ (l : List Nat) (k m i q : Nat), fo l k = some m → fo (l.take i) k = some q → (h : i < l.length) → (fo (l.take (i + 1)) k = some (if l[i] < q then q else q + 1)) ∧ l[i] ≤ q ∧ (l[i] < q ↔ l[i] < k ∨ l[i] ∈ l.take i)
  | [], k, m, i, q, h, hq, hi => by simp at hi
  | c :: r, k, m, 0, q, h, hq, hi => by
    rw [List.take_zero, fo] at hq
    cases hq
    rw [fo] at h
    rw [List.take_succ_cons, List.take_zero, List.getElem_cons_zero, fo]
    split at h
    · rename_i hc
      rw [if_pos hc, if_pos hc]
      exact ⟨rfl, by omega, by simp⟩
    · rename_i hc
      rw [if_neg hc, if_neg hc]
      split at h
      · rename_i hk
        rw [if_pos hk]
        exact ⟨rfl, by omega, by simp⟩
      · cases h
  | c :: r, k, m, i + 1, q, h, hq, hi => by
    rw [fo] at h
    rw [List.take_succ_cons, fo] at hq
    rw [List.take_succ_cons (i := i + 1), List.getElem_cons_succ, fo]
    have hi' : i < r.length := by simpa using hi
    split at h
    · rename_i hc
      rw [if_pos hc] at hq ⊢
      obtain ⟨a, b, d⟩ := fo_next r k m i q h hq hi'
      refine ⟨a, b, d.trans ⟨fun x => x.imp id (fun y => by rw [List.take_succ_cons]; exact List.mem_cons_of_mem _ y), fun x => ?_⟩⟩
      rcases x with x | x
      · exact .inl x
      · rw [List.take_succ_cons] at x
        rcases List.mem_cons.1 x with y | y
        · left; omega
        · exact .inr y
    · rename_i hc
      rw [if_neg hc] at hq ⊢
      split at h
      · rename_i hk
        rw [if_pos hk] at hq ⊢
        obtain ⟨a, b, d⟩ := fo_next r (k + 1) m i q h hq hi'
        refine ⟨a, b, d.trans ⟨fun x => ?_, fun x => ?_⟩⟩
        · rcases x with x | x
          · rcases Nat.lt_or_ge r[i] k with y | y
            · exact .inl y
            · right; rw [List.take_succ_cons]; exact List.mem_cons.2 (.inl (by omega))
          · right; rw [List.take_succ_cons]; exact List.mem_cons_of_mem _ x
        · rcases x with x | x
          · left; omega
          · rw [List.take_succ_cons] at x
            rcases List.mem_cons.1 x with y | y
            · left; omega
            · exact .inr y
      · cases h


theorem mut_iff {n m : Nat} {E : Nat → Nat → Prop} {comp : List Nat} (h : CompOf n E comp m) {i j : Nat} (hi : i < n) (hj : j < n) : (rB E i j && rB E j i) = decide (comp.getD j 0 = comp.getD i 0) := by
  rw [Bool.eq_iff_iff, Bool.and_eq_true, rB_iff, rB_iff, decide_eq_true_eq, ← h.2.2 i j hi hj]
  exact ⟨Eq.symm, Eq.symm⟩

def OSt (w1 : World) (comp : List Nat) (sl : List Int) (i q : Nat) (v4 : Value) (W : World) : Prop :=
  fo (comp.take i) 0 = some q ∧ ∃ vals, One w1 25 1 v4 q vals W ∧ Rz W w1.heap.size vals ((List.range q).map (grpZ comp sl))


set_option maxHeartbeats 8000000 in
set_option maxRecDepth 100000 in
theorem ofR_calls {gw : Int} (w : World) (A AE : Option Addr) (cg ce m : Nat) (sl : List Int) (R : List (Int × Int)) (comp : List Nat) (hv : RdI w A sl) (he : RdE w AE R) (hs : sl.Pairwise (· < ·)) (hgood : good sl R = true) (hco : CompOf sl.length (PE sl R) comp m) (hl : sl.length ≤ 1000) (hr : R.length ≤ 100000) :
    Calls Try.prog 29 #[gV A sl.length cg (.slice AE R.length ce) gw] w fun e w' => ∃ A' c', e = .returned (.slice A' m c') ∧ RdL w' A' (ofL comp sl m) ∧ Below w.heap.size w w' := by
  obtain ⟨i1, hi1, hz1, hs1, hy1⟩ := info_parts info_int
  obtain ⟨i3, hi3, hz3, hs3, hy3⟩ := info_parts info_ints
  obtain ⟨n, hn⟩ : ∃ n, sl.length = n := ⟨_, rfl⟩
  have hclc := fun (W : World) (hW : Below w.heap.size w W) => closure_calls (gw := gw) W A AE cg ce sl R (hv.below hW) (he.below hW) hs hgood hl hr
  rw [hn] at hl hco hclc ⊢
  unfold gV at hclc ⊢
  have HV := Lib.hid hv
  have HN := Lib.hid hn
  have HCO := Lib.hid hco
  have HCL := Lib.hid hclc
  clear hv he hs hgood hn hco hclc
  go_enter Try.func29, Try.ntmps29
  go_wp2_with fail
  refine (HCL.out _ ((Below.refl _ _).alloc (Nat.le_refl _) _)).mono ?_
  clear HCL
  rintro e w1 ⟨A3, c3, rfl, hrc, hb1⟩
  have hsz : (w.alloc (.cells #[.slice A n cg, .slice AE R.length ce, .int .i64 0, .int .i64 gw] 28)).heap.size = w.heap.size + 1 := by simp
  have hgx : At w1 w.heap.size [.slice A n cg, .slice AE R.length ce, .int .i64 0, .int .i64 gw] 28 := (At.made (w := w) (a := #[.slice A n cg, .slice AE R.length ce, .int .i64 0, .int .i64 gw]) rfl rfl).below hb1 (by rw [hsz]; omega)
  have hbel : Below w.heap.size w w1 := ((Below.refl _ _).alloc (Nat.le_refl _) _).trans (hb1.mono (by rw [hsz]; omega))
  obtain ⟨gx, hgxe⟩ : ∃ gx, w.heap.size = gx := ⟨_, rfl⟩
  rw [hgxe] at hgx ⊢
  have q0 := hgx.cell 0 rfl
  have HGXE := Lib.hid hgxe
  have HX := Lib.hid hgx
  have HRC := Lib.hid hrc
  have HB1 := Lib.hid hbel
  have HV1 := Lib.hid (HV.out.below (hgxe ▸ hbel : Below w.heap.size w w1))
  clear hsz hgx hbel hrc hb1 HV
  go_wp2_with fail
  clear q0
  go_loopg [4, 5] n (fun kq v4 v5 w' => ∃ i q : Nat, v5 = .int .i64 (i : Int) ∧ Hid (i + kq = n ∧ q ≤ i ∧ OSt w1 comp sl i q v4 w'))
  case atStart => exact ⟨0, 0, rfl, Lib.hid ⟨by omega, Nat.le_refl _, rfl, [], One.start, Rz.nil⟩⟩
  case round =>
    obtain ⟨i, q, rfl, hI⟩ := hrel
    obtain ⟨hik, hqi, hfo, vals, hO, hZ⟩ := hI.out
    clear hI
    have q0 := (HX.out.below hO.b HX.out.lt).cell 0 rfl
    have hcn : comp.length = n := HCO.out.1
    by_cases hi : i < n
    · obtain ⟨k1, rfl⟩ : ∃ k1, gk = k1 + 1 := ⟨gk - 1, by omega⟩
      obtain ⟨b3, Bi, cBi, rfl, ci, cix⟩ := (HRC.out.below hO.b) i hi
      have hci : comp.getD i 0 = comp[i]'(by omega) := by rw [List.getD_eq_getElem?_getD, List.getElem?_eq_getElem (by omega)]; rfl
      obtain ⟨hf1, hf2, hf3⟩ := fo_next comp 0 m i q HCO.out.2.1 hfo (by omega)
      rw [← hci] at hf1 hf2 hf3
      have HF1 := Lib.hid hf1
      have HF2 := Lib.hid hf2
      have HF3 := Lib.hid hf3
      have HO := Lib.hid hO
      have HZ := Lib.hid hZ
      have HIK := Lib.hid (show i + (k1 + 1) = n ∧ q ≤ i ∧ i < n ∧ comp.length = n from ⟨hik, hqi, hi, hcn⟩)
      have HCI := Lib.hid ci
      have HCX := Lib.hid cix
      have HCR := Lib.hid (HRC.out.below hO.b)
      have HVW := Lib.hid (RdI.below HV1.out hO.b)
      have HXW := Lib.hid (HX.out.below hO.b HX.out.lt)
      have j0 : (0 : Int) ≤ (i : Int) := by omega
      have j1 : (i : Int) < (n : Int) := by omega
      have j2 : (n : Int) ≤ 1000 := by omega
      obtain ⟨wr0, hwr0⟩ : ∃ wr0, wr = wr0 := ⟨_, rfl⟩
      rw [hwr0] at HO HZ HCI HCX HCR HVW HXW q0 ⊢
      clear hf1 hf2 hf3 hfo hO hZ hik hqi hcn hci ci cix hwr0 hi
      go_wp2_with fail
      go_loopg [6, 7] i (fun kq v6 v7 w' => ∃ j : Nat, v7 = .int .i64 (j : Int) ∧ v6 = .bool (fstB comp i j) ∧ Hid (j + kq = i ∧ w' = wr0))
      case atStart => exact ⟨0, rfl, rfl, Lib.hid ⟨by omega, rfl⟩⟩
      case round =>
        obtain ⟨j, rfl, rfl, hI⟩ := hrel
        obtain ⟨hji, hw⟩ := hI.out
        subst hw
        clear hI
        by_cases hj : j < i
        · obtain ⟨k2, rfl⟩ : ∃ k2, gk = k2 + 1 := ⟨gk - 1, by omega⟩
          have hin := HIK.out.2.2.1
          obtain ⟨_, Bj, cBj, hbe, cj, cjx⟩ := HCR.out j (by omega)
          cases hbe
          have ci := HCI.out
          have x1 := HCX.out j (by omega)
          have x2 := cjx i hin
          have hmu := mut_iff HCO.out hin (show j < n by omega)
          have hsu := fstB_succ (comp := comp) (i := i) (j := j) (by have := HIK.out.2.2.2; omega)
          obtain ⟨r1, hr1⟩ : ∃ r1, rB (PE sl R) i j = r1 := ⟨_, rfl⟩
          obtain ⟨r2, hr2⟩ : ∃ r2, rB (PE sl R) j i = r2 := ⟨_, rfl⟩
          obtain ⟨fb, hfb⟩ : ∃ fb, fstB comp i j = fb := ⟨_, rfl⟩
          rw [hr1] at x1 hmu
          rw [hr2] at x2 hmu
          rw [hfb] at hsu ⊢
          have hnew : fstB comp i (j + 1) = (fb && !(r1 && r2)) := by rw [hsu, hmu]; simp
          have HNW := Lib.hid hnew
          have HJ := Lib.hid hji
          have k0 : (0 : Int) ≤ (j : Int) := by omega
          have k1' : (j : Int) < (i : Int) := by omega
          have k3 : (j : Int) < (n : Int) := by omega
          clear hmu hsu hnew hr1 hr2 hfb cjx hji hj
          cases fb <;> cases r1 <;> cases r2
          all_goals go_wp2
          all_goals go_roundg k2
          all_goals first
            | (have := HJ.out; omega)
            | exact ⟨j + 1, by go_num, by rw [HNW.out]; rfl, Lib.hid ⟨by have := HJ.out; omega, rfl⟩⟩
        · obtain rfl : i = j := by omega
          clear hji hj
          cases hfb : fstB comp i i with
          | false =>
            have hin : comp.getD i 0 < q := HF3.out.2 (.inr (Classical.byContradiction fun h => by rw [fstB_iff.2 h] at hfb; cases hfb))
            have hfo := HF1.out
            rw [if_pos hin] at hfo
            have HFO := Lib.hid hfo
            clear hfb hin hfo
            go_wp2
            go_roundg k1
            case measure => have := HIK.out.1; omega
            case rel => exact ⟨i + 1, q, by go_num, Lib.hid ⟨by have := HIK.out.1; omega, by have := HIK.out.2.1; omega, HFO.out, vals, HO.out, HZ.out⟩⟩
          | true =>
            have hni := fstB_iff.1 hfb
            have hnq : ¬ comp.getD i 0 < q := fun h => by
              rcases HF3.out.1 h with h | h
              · omega
              · exact hni h
            have hq : comp.getD i 0 = q := by have := HF2.out; omega
            have hfo := HF1.out
            rw [if_neg hnq] at hfo
            have hg0 := grpZ_none (sl := sl) hfb
            rw [hq] at hg0
            have hmu : ∀ j, j < n → (rB (PE sl R) i j && rB (PE sl R) j i) = decide (comp.getD j 0 = q) := fun j hj => by rw [mut_iff HCO.out HIK.out.2.2.1 hj, hq]
            have HFO := Lib.hid hfo
            have HG0 := Lib.hid hg0
            have HMU := Lib.hid hmu
            clear hfb hni hnq hq hfo hg0 hmu HF1 HF2 HF3
            obtain ⟨wz, hwz⟩ : ∃ wz, wr = wz := ⟨_, rfl⟩
            rw [hwz] at HO HZ HCI HCX HCR HVW HXW q0 ⊢
            clear hwz
            go_wp2_with fail
            go_loopg [8, 9] (n - i) (fun kq v8 v9 w' => ∃ j : Nat, v9 = .int .i64 (j : Int) ∧ Hid (j + kq = n ∧ i ≤ j ∧ One wz 3 1 v8 (grpZ (comp.take j) (sl.take j) q).length (ints (grpZ (comp.take j) (sl.take j) q)) w'))
            case atStart => exact ⟨i, rfl, Lib.hid ⟨by have := HIK.out.2.2.1; omega, Nat.le_refl _, by rw [HG0.out]; exact One.start⟩⟩
            case round =>
              clear q0
              obtain ⟨j, rfl, hI⟩ := hrel
              obtain ⟨hjk, hij, hO8⟩ := hI.out
              clear hI
              have q0 := (HXW.out.below hO8.b HXW.out.lt).cell 0 rfl
              by_cases hj : j < n
              · obtain ⟨k2, rfl⟩ : ∃ k2, gk = k2 + 1 := ⟨gk - 1, by omega⟩
                obtain ⟨_, Bj, cBj, hbe, cj, cjx⟩ := (HCR.out.below hO8.b) j hj
                cases hbe
                have ci := keep_at hO8.b HCI.out
                have x1 := keep_at hO8.b (HCX.out j hj)
                have x2 := cjx i HIK.out.2.2.1
                have hmu := HMU.out j hj
                obtain ⟨y, hy⟩ : ∃ y, sl[j]? = some y := ⟨_, List.getElem?_eq_getElem (by have := HN.out; omega)⟩
                obtain ⟨ba, rfl, cy⟩ := (RdI.below HVW.out hO8.b) j y hy
                have hup := grpZ_up (comp := comp) (sl := sl) (c := q) (j := j) (by have := HIK.out.2.2.2; omega) (by have := HN.out; omega)
                rw [show sl.getD j 0 = y by rw [List.getD_eq_getElem?_getD, hy]; rfl] at hup
                obtain ⟨r1, hr1⟩ : ∃ r1, rB (PE sl R) i j = r1 := ⟨_, rfl⟩
                obtain ⟨r2, hr2⟩ : ∃ r2, rB (PE sl R) j i = r2 := ⟨_, rfl⟩
                rw [hr1] at x1 hmu
                rw [hr2] at x2 hmu
                obtain ⟨g8, hg8⟩ : ∃ g8, grpZ (comp.take j) (sl.take j) q = g8 := ⟨_, rfl⟩
                have hg8n : g8.length ≤ 1000 := by
                  rw [← hg8]
                  refine Nat.le_trans (grpZ_length _ _ _) ?_
                  rw [List.length_take]
                  omega
                rw [hg8] at hO8 hup
                have HO8 := Lib.hid hO8
                have HUP := Lib.hid hup
                have HJ := Lib.hid (show j + (k2 + 1) = n ∧ i ≤ j from ⟨hjk, hij⟩)
                have k0 : (0 : Int) ≤ (j : Int) := by omega
                have k1' : (j : Int) < (n : Int) := by omega
                by_cases hjq : comp.getD j 0 = q
                · rw [decide_eq_true hjq] at hmu
                  have hr12 := Bool.and_eq_true_iff.1 hmu
                  have HQ := Lib.hid hjq
                  rw [hr12.1] at x1
                  rw [hr12.2] at x2
                  clear hmu hr1 hr2 hr12 cjx hjk hij hj hjq hup hO8 hg8 hy r1 r2
                  go_wp2_with ((at_builtin; (refine wpList_append_any rfl (.tmp 70) (.tmp 76) 25 rfl wz.heap.size 3 i1 (.int .i64 0) 1 8 Try.underlying25 hi1 hz1 hs1 hy1 rfl (by omega) _ _ _ rfl (HO8.out.r.alloc (.cells #[.int .i64 y] 3)) _ rfl 1 [.int .i64 y] (RdV.lit wr #[.int .i64 y] 3 1 1 1 rfl (by simp [Value.oneCell'])) (by unfold maxLen; omega) (by omega) (by have := HO8.out.b.size; simp; omega) ?_; intro v8 w8 ho hg hn; have hone := (HO8.out.below ((Below.refl _ _).alloc (Nat.le_refl _) (.cells #[.int .i64 y] 3))).grow ho hg; have HO9 := Lib.hid hone; clear ho hg hn hone HO8)))
                  go_roundg k2
                  case measure => have := HJ.out.1; omega
                  case rel =>
                    refine ⟨j + 1, by go_num, Lib.hid ⟨by have := HJ.out.1; omega, by have := HJ.out.2; omega, ?_⟩⟩
                    rw [HUP.out, if_pos HQ.out, List.length_append, List.length_singleton, ← ints_snoc]
                    exact HO9.out
                · rw [decide_eq_false hjq] at hmu
                  have HQ := Lib.hid hjq
                  clear hr1 hr2 cjx hjk hij hj hjq hup hO8 hg8 hy
                  have HREL := Lib.hid (show One wz 3 1 u8 (grpZ (comp.take (j + 1)) (sl.take (j + 1)) q).length (ints (grpZ (comp.take (j + 1)) (sl.take (j + 1)) q)) wr by
                    rw [HUP.out, if_neg HQ.out, List.append_nil]; exact HO8.out)
                  cases r1 <;> cases r2
                  case true.true => cases hmu
                  all_goals clear hmu
                  all_goals go_wp2
                  all_goals go_roundg k2
                  all_goals first
                    | (have := HJ.out.1; omega)
                    | exact ⟨j + 1, by go_num, Lib.hid ⟨by have := HJ.out.1; omega, by have := HJ.out.2; omega, HREL.out⟩⟩
              · obtain rfl : n = j := by omega
                rw [List.take_of_length_le (by have := HIK.out.2.2.2; omega), List.take_of_length_le (by have := HN.out; omega)] at hO8
                obtain ⟨A8, c8, rfl⟩ := own_slice hO8.r
                have hzn := HZ.out.snoc hO8.b (Nat.le_refl _) HO.out.b.size hO8.r
                have hrg : (List.range q).map (grpZ comp sl) ++ [grpZ comp sl q] = (List.range (q + 1)).map (grpZ comp sl) := by rw [List.range_succ, List.map_append]; rfl
                rw [hrg] at hzn
                obtain ⟨n8, hn8⟩ : ∃ n8, (grpZ comp sl q).length = n8 := ⟨_, rfl⟩
                rw [hn8] at hzn ⊢
                have HZN := Lib.hid hzn
                have HON := Lib.hid (HO.out.below hO8.b)
                have hqn : q ≤ 1000 := by have := HIK.out.2.1; omega
                clear hO8 hzn hrg hn8 hjk hij hj
                go_wp2_with ((at_builtin; (refine wpList_append_any rfl (.tmp 78) (.tmp 80) 66 rfl w1.heap.size 25 i3 (.slice none 0 0) 1 24 Try.underlying66 hi3 hz3 hs3 hy3 rfl (by omega) _ _ _ rfl (HON.out.r.alloc (.cells #[.slice A8 n8 c8] 25)) _ rfl 1 [.slice A8 n8 c8] (RdV.lit wr #[.slice A8 n8 c8] 25 1 1 1 rfl (by simp [Value.oneCell'])) (by unfold maxLen; omega) (by omega) (by have := HON.out.b.size; simp; omega) ?_; intro v4 w4 ho hg hn; have hone := (HON.out.below ((Below.refl _ _).alloc (Nat.le_refl _) (.cells #[.slice A8 n8 c8] 25))).grow ho hg; have hzz := (HZN.out.below ((Below.refl _ _).alloc (Nat.le_refl _) (.cells #[.slice A8 n8 c8] 25))).other (HON.out.r.alloc (.cells #[.slice A8 n8 c8] 25)) (by decide) hg; have HO4 := Lib.hid hone; have HZ4 := Lib.hid hzz; clear ho hg hn hone hzz)))
                go_roundg k1
                case measure => have := HIK.out.1; omega
                case rel => exact ⟨i + 1, q + 1, by go_num, Lib.hid ⟨by have := HIK.out.1; omega, by have := HIK.out.2.1; omega, HFO.out, _, HO4.out, HZ4.out⟩⟩
    · obtain rfl : n = i := by omega
      rw [List.take_of_length_le (by omega)] at hfo
      obtain rfl : m = q := Option.some.inj (HCO.out.2.1.symm.trans hfo)
      obtain ⟨A', c', rfl⟩ := own_slice hO.r
      have hvl : vals.length = m := by have := hO.r.1; omega
      have hrd : RdL wr A' (ofL comp sl m) := by
        intro k r hk
        have hkm : k < m := by have := (List.getElem?_eq_some_iff.1 hk).1; simpa [ofL] using this
        obtain ⟨g, rfl, _, hcc⟩ := cell_flat hO.r (by omega)
        obtain ⟨u, hu⟩ : ∃ u, vals[k]? = some u := ⟨_, List.getElem?_eq_getElem (by omega)⟩
        obtain ⟨B, cB, rfl, hrb⟩ := hZ.rd hu hk
        exact ⟨g, B, cB, rfl, hcc k _ hu, hrb⟩
      have HRD := Lib.hid hrd
      have HO := Lib.hid hO
      clear hO hZ hvl hrd hfo hik hqi hcn hi
      go_wp2
      go_ret
      exact ⟨A', c', rfl, HRD.out, HB1.out.trans (HO.out.b.mono HB1.out.size)⟩

end Go.Proofs.Ythomnpgpbhpojaa.Lw

/- The reference's graph: At. -/
namespace Go.Proofs.Ythomnpgpbhpojaa.Cd
open Go Go.RowKit Go.MapKept Go.Proofs.Ythomnpgpbhpojaa.Mem Go.Proofs.Ythomnpgpbhpojaa.Sl Go.Proofs.Ythomnpgpbhpojaa.Lw Go.Proofs.Ythomnpgpbhpojaa.Pt Go.Proofs.YthomnpgpbhpojaaW.PrintWords Go.Proofs.YthomnpgpbhpojaaW.PrintLast
attribute [local go_sem ↓] Go.wp_at_zero Go.wp_at_succ
set_option linter.unusedSimpArgs false
set_option linter.unusedVariables false

def edg (es : List (Int × Int × Int)) : List Value := es.flatMap fun p => [.int .i64 p.1, .int .i64 p.2.1, .int .i64 p.2.2, .int .u32 0]
theorem edg_cons (p : Int × Int × Int) (es : List (Int × Int × Int)) : edg (p :: es) = .int .i64 p.1 :: .int .i64 p.2.1 :: .int .i64 p.2.2 :: .int .u32 0 :: edg es := rfl
theorem edg_append (a b : List (Int × Int × Int)) : edg (a ++ b) = edg a ++ edg b := by simp [edg]
theorem edg_length : ∀ es : List (Int × Int × Int), (edg es).length = es.length * 4
  | [] => rfl
  | p :: es => by rw [edg_cons]; simp only [List.length_cons, edg_length es]; omega
theorem edg_at : ∀ (es : List (Int × Int × Int)) (j : Nat) (e u v : Int), es[j]? = some (e, u, v) → (edg es)[j * 4]? = some (.int .i64 e) ∧ (edg es)[j * 4 + 1]? = some (.int .i64 u) ∧ (edg es)[j * 4 + 2]? = some (.int .i64 v) ∧ (edg es)[j * 4 + 3]? = some (.int .u32 0)
  | [], j, e, u, v, h => by simp at h
  | p :: es, 0, e, u, v, h => by
    cases h
    exact ⟨rfl, rfl, rfl, rfl⟩
  | p :: es, j + 1, e, u, v, h => by
    have := edg_at es j e u v (by simpa using h)
    rw [edg_cons, show (j + 1) * 4 = j * 4 + 1 + 1 + 1 + 1 by omega]
    simpa using this
def RdG (w : World) (A : Option Addr) (es : List (Int × Int × Int)) : Prop := ∀ (j : Nat) (e u v : Int), es[j]? = some (e, u, v) → ∃ b, A = some ⟨b, 0, none⟩ ∧ w.cell? ⟨b, j * 4, none⟩ = some (.int .i64 e) ∧ w.cell? ⟨b, j * 4 + 1, none⟩ = some (.int .i64 u) ∧ w.cell? ⟨b, j * 4 + 2, none⟩ = some (.int .i64 v)
theorem RdG.below {w w' : World} {A : Option Addr} {es : List (Int × Int × Int)} (h : RdG w A es) (hb : Below w.heap.size w w') : RdG w' A es := fun j e u v hx => by
  obtain ⟨b, h1, h2, h3, h4⟩ := h j e u v hx
  exact ⟨b, h1, keep_at hb h2, keep_at hb h3, keep_at hb h4⟩
def atI (es : List (Int × Int × Int)) (e : Int) : Int := match es.findIdx? (fun p => decide (p.1 = e)) with | some i => (i : Int) | none => -1
theorem atI_yes {es : List (Int × Int × Int)} {e : Int} {i : Nat} {p : Int × Int × Int} (hp : es[i]? = some p) (he : p.1 = e) (hn : ∀ j q, j < i → es[j]? = some q → q.1 ≠ e) : atI es e = i := by
  have hi := (List.getElem?_eq_some_iff.1 hp).1
  have : es.findIdx? (fun p => decide (p.1 = e)) = some i := by
    rw [List.findIdx?_eq_some_iff_getElem]
    refine ⟨hi, ?_, fun j hj => ?_⟩
    · rw [(List.getElem?_eq_some_iff.1 hp).2]
      simpa using he
    · have := hn j _ hj (List.getElem?_eq_getElem (by omega))
      simpa using this
  unfold atI
  rw [this]
theorem atI_no {es : List (Int × Int × Int)} {e : Int} (hn : ∀ p ∈ es, p.1 ≠ e) : atI es e = -1 := by
  have : es.findIdx? (fun p => decide (p.1 = e)) = none := by
    rw [List.findIdx?_eq_none_iff]
    intro p hp
    simpa using hn p hp
  unfold atI
  rw [this]

set_option maxHeartbeats 8000000 in
set_option maxRecDepth 100000 in
theorem at_calls {gw : Int} (w : World) (A AE : Option Addr) (n cg ce : Nat) (es : List (Int × Int × Int)) (e : Int) (he : RdG w AE es) (hr : es.length ≤ 100000) :
    Calls Try.prog 8 #[gV A n cg (.slice AE es.length ce) gw, .int .i64 e] w fun en w' => en = .returned (.int .i64 (atI es e)) ∧ Below w.heap.size w w' := by
  obtain ⟨ans, hans⟩ : ∃ ans, atI es e = ans := ⟨_, rfl⟩
  rw [hans]
  unfold gV
  have HE := Lib.hid he
  have HANS := Lib.hid hans
  clear he hans
  go_enter Try.func8, Try.ntmps8
  go_wp2_with fail
  refine gen_loopw (fun W => At W w.heap.size [.slice A n cg, .slice AE es.length ce, .int .i64 0, .int .i64 gw] 28 ∧ Below w.heap.size w W) ?_ ?_
  · exact ⟨At.made rfl rfl, (Below.refl _ _).alloc (Nat.le_refl _) _⟩
  obtain ⟨gx, hgx⟩ : ∃ gx, w.heap.size = gx := ⟨_, rfl⟩
  rw [hgx]
  rintro w3 ⟨hat, hb⟩
  rw [← hgx] at hb
  have q1 := hat.cell 1 rfl
  have HB := Lib.hid hb
  clear hat hb hgx
  go_loopg [5] es.length (fun kq v5 w' => ∃ j : Nat, v5 = .int .i64 (j : Int) ∧ Hid (j + kq = es.length ∧ w' = w3 ∧ ∀ t p, t < j → es[t]? = some p → p.1 ≠ e))
  case atStart => exact ⟨0, rfl, Lib.hid ⟨by omega, rfl, fun t p h => by omega⟩⟩
  case round =>
    obtain ⟨j, rfl, hI⟩ := hrel
    obtain ⟨hjk, rfl, hall⟩ := hI.out
    clear hI
    by_cases hj : j < es.length
    · obtain ⟨k1, rfl⟩ : ∃ k1, gk = k1 + 1 := ⟨gk - 1, by omega⟩
      obtain ⟨⟨a, b, c⟩, hxx⟩ : ∃ x, es[j] = x := ⟨_, rfl⟩
      have hx : es[j]? = some (a, b, c) := by rw [List.getElem?_eq_getElem hj, hxx]
      obtain ⟨be, rfl, qe, -, -⟩ := (HE.out.below HB.out) j a b c hx
      have j0 : (0 : Int) ≤ (j : Int) := by omega
      have j1 : (j : Int) < (es.length : Int) := by omega
      have j2 : (es.length : Int) ≤ 100000 := by omega
      by_cases hae : a = e
      · subst hae
        have HQ := Lib.hid (show ans = (j : Int) from by rw [← HANS.out, atI_yes hx rfl hall])
        clear hx hxx hall hjk hj
        go_wp2
        go_ret
        exact ⟨by rw [HQ.out]; rfl, HB.out⟩
      · have HN := Lib.hid (show ∀ t p, t < j + 1 → es[t]? = some p → p.1 ≠ e from fun t p ht hp => by
          rcases Nat.lt_or_ge t j with h | h
          · exact hall t p h hp
          · obtain rfl : t = j := by omega
            rw [hx] at hp
            cases hp
            exact hae)
        clear hx hxx hall hj
        go_wp2
        go_roundg k1
        case measure => omega
        case rel => exact ⟨j + 1, by go_num, Lib.hid ⟨by omega, rfl, HN.out⟩⟩
    · obtain rfl : j = es.length := by omega
      have HQ := Lib.hid (show ans = -1 from by
        rw [← HANS.out]
        exact atI_no fun p hp => by
          obtain ⟨t, ht, e1⟩ := List.getElem_of_mem hp
          exact hall t p ht (by rw [List.getElem?_eq_getElem ht, e1]))
      have j2 : (es.length : Int) ≤ 100000 := by omega
      clear hall hjk hj
      go_wp2
      go_ret
      exact ⟨by rw [HQ.out]; rfl, HB.out⟩
end Go.Proofs.Ythomnpgpbhpojaa.Cd

/- The reference's graph: Out, In. -/
namespace Go.Proofs.Ythomnpgpbhpojaa.Cd
open Go Go.RowKit Go.MapKept Go.Proofs.Ythomnpgpbhpojaa.Mem Go.Proofs.Ythomnpgpbhpojaa.Sl Go.Proofs.Ythomnpgpbhpojaa.Lw Go.Proofs.Ythomnpgpbhpojaa.Pt Go.Proofs.YthomnpgpbhpojaaW.PrintWords Go.Proofs.YthomnpgpbhpojaaW.PrintLast
attribute [local go_sem ↓] Go.wp_at_zero Go.wp_at_succ
set_option linter.unusedSimpArgs false
set_option linter.unusedVariables false


set_option maxHeartbeats 8000000 in
set_option maxRecDepth 100000 in
theorem out_calls {gw : Int} (w : World) (A AE : Option Addr) (n cg ce : Nat) (es : List (Int × Int × Int)) (v : Int) (he : RdG w AE es) (hr : es.length ≤ 100000) :
    Calls Try.prog 49 #[gV A n cg (.slice AE es.length ce) gw, .int .i64 v] w fun en w' => ∃ Ao m co, en = .returned (.slice Ao m co) ∧ m ≤ es.length ∧ (m = 0 ↔ ∀ p ∈ es, p.2.1 ≠ v) ∧ Below w.heap.size w w' := by
  obtain ⟨i1, hi1, hz1, hs1, hy1⟩ := info_parts Lw.info_int
  unfold gV
  have HE := Lib.hid he
  clear he
  go_enter Try.func49, Try.ntmps49
  go_wp2_with fail
  refine gen_loopw (fun W => At W w.heap.size [.slice A n cg, .slice AE es.length ce, .int .i64 0, .int .i64 gw] 28 ∧ Below w.heap.size w W ∧ W.heap.size = w.heap.size + 1) ?_ ?_
  · exact ⟨At.made rfl rfl, (Below.refl _ _).alloc (Nat.le_refl _) _, by simp⟩
  obtain ⟨gx, hgx⟩ : ∃ gx, w.heap.size = gx := ⟨_, rfl⟩
  rw [hgx]
  rintro w3 ⟨hat, hb, hs3⟩
  rw [← hgx] at hb
  have HS := Lib.hid (show At w3 gx [.slice A n cg, .slice AE es.length ce, .int .i64 0, .int .i64 gw] 28 ∧ Below w.heap.size w w3 ∧ gx < w3.heap.size from ⟨hat, hb, by omega⟩)
  clear hat hb hgx hs3
  go_loopg [5, 6] es.length (fun kq v5 v6 w' => ∃ j : Nat, v6 = .int .i64 (j : Int) ∧ Hid (j + kq = es.length ∧ ∃ l : List Int, w'.ownsRow w3.heap.size 3 1 v5 l.length (ints l) ∧ Below w3.heap.size w3 w' ∧ l.length ≤ j ∧ (l.length = 0 ↔ ∀ t p, t < j → es[t]? = some p → p.2.1 ≠ v)))
  case atStart => exact ⟨0, rfl, Lib.hid ⟨by omega, [], World.ownsRow_nil _ _ _ _, Below.refl _ _, by simp, by simp⟩⟩
  case round =>
    obtain ⟨j, rfl, hI⟩ := hrel
    obtain ⟨hjk, l, ho, hb, hlj, hall⟩ := hI.out
    clear hI
    have q1 := (HS.out.1.below hb HS.out.2.2).cell 1 rfl
    have j2 : (es.length : Int) ≤ 100000 := by omega
    by_cases hj : j < es.length
    · obtain ⟨k1, rfl⟩ : ∃ k1, gk = k1 + 1 := ⟨gk - 1, by omega⟩
      obtain ⟨⟨a, b, c⟩, hxx⟩ : ∃ x, es[j] = x := ⟨_, rfl⟩
      have hx : es[j]? = some (a, b, c) := by rw [List.getElem?_eq_getElem hj, hxx]
      obtain ⟨be, rfl, qe, qu, qv⟩ := ((HE.out.below HS.out.2.1).below hb) j a b c hx
      have j0 : (0 : Int) ≤ (j : Int) := by omega
      have j1 : (j : Int) < (es.length : Int) := by omega
      have hsn : (∀ t p, t < j + 1 → es[t]? = some p → p.2.1 ≠ v) ↔ ((∀ t p, t < j → es[t]? = some p → p.2.1 ≠ v) ∧ b ≠ v) := by
        constructor
        · exact fun h => ⟨fun t p ht => h t p (by omega), h j _ (by omega) hx⟩
        · rintro ⟨h, h2⟩ t p ht hp
          rcases Nat.lt_or_ge t j with h3 | h3
          · exact h t p h3 hp
          · obtain rfl : t = j := by omega
            rw [hx] at hp
            cases hp
            exact h2
      by_cases hbv : b = v
      · subst hbv
        have HO := Lib.hid (And.intro ho (And.intro hb hb.size))
        have hl2 : l.length ≤ 100000 := by omega
        have HN := Lib.hid (And.intro hjk (And.intro hlj hsn))
        clear ho hb hall hx hxx hsn hjk hj hlj
        go_wp2_with ((at_builtin; refine wpList_append_any rfl (.tmp 22) (.tmp 29) 25 rfl w3.heap.size 3 i1 (.int .i64 0) 1 8 Try.underlying25 hi1 hz1 hs1 hy1 rfl (by omega) _ _ _ rfl (HO.out.1.alloc (.cells #[.int .i64 a] 3)) _ rfl 1 [.int .i64 a] (RdV.lit _ #[.int .i64 a] 3 1 1 1 rfl (by simp [Value.oneCell'])) (by unfold maxLen; omega) (by omega) (by have := HO.out.2.2; simp; omega) ?_; intro v6 w6 ho hg hn; have hb6 := (HO.out.2.1.alloc HO.out.2.2 (.cells #[.int .i64 a] 3)).grown hg (by have := HO.out.2.2; simp; omega) (fun k hk => (HO.out.1.lt k hk).1); have HO6 := Lib.hid (And.intro ho hb6); clear ho hg hn hb6))
        go_roundg k1
        case measure => omega
        case rel =>
          obtain ⟨hjk, hlj, hsn⟩ := HN.out
          refine ⟨j + 1, by go_num, Lib.hid ⟨by omega, l ++ [a], by rw [List.length_append, List.length_singleton, ints_app]; exact HO6.out.1, HO6.out.2, by rw [List.length_append, List.length_singleton]; omega, ?_⟩⟩
          rw [hsn]
          constructor
          · intro h; simp at h
          · intro h; exact absurd rfl h.2
      · have HN := Lib.hid (show j + 1 + k1 = es.length ∧ ∃ l : List Int, wr.ownsRow w3.heap.size 3 1 _ l.length (ints l) ∧ Below w3.heap.size w3 wr ∧ l.length ≤ j + 1 ∧ (l.length = 0 ↔ ∀ t p, t < j + 1 → es[t]? = some p → p.2.1 ≠ v) from
          ⟨by omega, l, ho, hb, by omega, by rw [hsn, hall]; exact ⟨fun h => ⟨h, hbv⟩, fun h => h.1⟩⟩)
        clear ho hb hall hx hxx hsn hjk hj hlj
        go_wp2
        go_roundg k1
        case measure => omega
        case rel => exact ⟨j + 1, by go_num, HN⟩
    · obtain rfl : j = es.length := by omega
      obtain ⟨Ao, co, rfl⟩ := Lw.own_slice ho
      have HQ := Lib.hid (show l.length ≤ es.length ∧ (l.length = 0 ↔ ∀ p ∈ es, p.2.1 ≠ v) ∧ Below w.heap.size w wr from ⟨hlj, by
        rw [hall]
        constructor
        · intro h p hp
          obtain ⟨t, ht, e1⟩ := List.getElem_of_mem hp
          exact h t p ht (by rw [List.getElem?_eq_getElem ht, e1])
        · intro h t p ht hp
          exact h p (List.mem_of_getElem? hp), HS.out.2.1.trans (hb.mono HS.out.2.1.size)⟩)
      clear ho hb hall hjk hj hlj
      go_wp2
      go_ret
      exact ⟨_, _, _, rfl, HQ.out⟩

set_option maxHeartbeats 8000000 in
set_option maxRecDepth 100000 in
theorem in_calls7 {gw : Int} (w : World) (A AE : Option Addr) (n cg ce : Nat) (es : List (Int × Int × Int)) (v : Int) (he : RdG w AE es) (hr : es.length ≤ 100000) :
    Calls Try.prog 50 #[gV A n cg (.slice AE es.length ce) gw, .int .i64 v] w fun en w' => ∃ Ao m co, en = .returned (.slice Ao m co) ∧ m ≤ es.length ∧ (m = 0 ↔ ∀ p ∈ es, p.2.2 ≠ v) ∧ Below w.heap.size w w' := by
  obtain ⟨i1, hi1, hz1, hs1, hy1⟩ := info_parts Lw.info_int
  unfold gV
  have HE := Lib.hid he
  clear he
  go_enter Try.func50, Try.ntmps50
  go_wp2_with fail
  refine gen_loopw (fun W => At W w.heap.size [.slice A n cg, .slice AE es.length ce, .int .i64 0, .int .i64 gw] 28 ∧ Below w.heap.size w W ∧ W.heap.size = w.heap.size + 1) ?_ ?_
  · exact ⟨At.made rfl rfl, (Below.refl _ _).alloc (Nat.le_refl _) _, by simp⟩
  obtain ⟨gx, hgx⟩ : ∃ gx, w.heap.size = gx := ⟨_, rfl⟩
  rw [hgx]
  rintro w3 ⟨hat, hb, hs3⟩
  rw [← hgx] at hb
  have HS := Lib.hid (show At w3 gx [.slice A n cg, .slice AE es.length ce, .int .i64 0, .int .i64 gw] 28 ∧ Below w.heap.size w w3 ∧ gx < w3.heap.size from ⟨hat, hb, by omega⟩)
  clear hat hb hgx hs3
  go_loopg [5, 6] es.length (fun kq v5 v6 w' => ∃ j : Nat, v6 = .int .i64 (j : Int) ∧ Hid (j + kq = es.length ∧ ∃ l : List Int, w'.ownsRow w3.heap.size 3 1 v5 l.length (ints l) ∧ Below w3.heap.size w3 w' ∧ l.length ≤ j ∧ (l.length = 0 ↔ ∀ t p, t < j → es[t]? = some p → p.2.2 ≠ v)))
  case atStart => exact ⟨0, rfl, Lib.hid ⟨by omega, [], World.ownsRow_nil _ _ _ _, Below.refl _ _, by simp, by simp⟩⟩
  case round =>
    obtain ⟨j, rfl, hI⟩ := hrel
    obtain ⟨hjk, l, ho, hb, hlj, hall⟩ := hI.out
    clear hI
    have q1 := (HS.out.1.below hb HS.out.2.2).cell 1 rfl
    have j2 : (es.length : Int) ≤ 100000 := by omega
    by_cases hj : j < es.length
    · obtain ⟨k1, rfl⟩ : ∃ k1, gk = k1 + 1 := ⟨gk - 1, by omega⟩
      obtain ⟨⟨a, b, c⟩, hxx⟩ : ∃ x, es[j] = x := ⟨_, rfl⟩
      have hx : es[j]? = some (a, b, c) := by rw [List.getElem?_eq_getElem hj, hxx]
      obtain ⟨be, rfl, qe, qu, qv⟩ := ((HE.out.below HS.out.2.1).below hb) j a b c hx
      have j0 : (0 : Int) ≤ (j : Int) := by omega
      have j1 : (j : Int) < (es.length : Int) := by omega
      have hsn : (∀ t p, t < j + 1 → es[t]? = some p → p.2.2 ≠ v) ↔ ((∀ t p, t < j → es[t]? = some p → p.2.2 ≠ v) ∧ c ≠ v) := by
        constructor
        · exact fun h => ⟨fun t p ht => h t p (by omega), h j _ (by omega) hx⟩
        · rintro ⟨h, h2⟩ t p ht hp
          rcases Nat.lt_or_ge t j with h3 | h3
          · exact h t p h3 hp
          · obtain rfl : t = j := by omega
            rw [hx] at hp
            cases hp
            exact h2
      by_cases hbv : c = v
      · subst hbv
        have HO := Lib.hid (And.intro ho (And.intro hb hb.size))
        have hl2 : l.length ≤ 100000 := by omega
        have HN := Lib.hid (And.intro hjk (And.intro hlj hsn))
        clear ho hb hall hx hxx hsn hjk hj hlj
        go_wp2_with ((at_builtin; refine wpList_append_any rfl (.tmp 22) (.tmp 29) 25 rfl w3.heap.size 3 i1 (.int .i64 0) 1 8 Try.underlying25 hi1 hz1 hs1 hy1 rfl (by omega) _ _ _ rfl (HO.out.1.alloc (.cells #[.int .i64 a] 3)) _ rfl 1 [.int .i64 a] (RdV.lit _ #[.int .i64 a] 3 1 1 1 rfl (by simp [Value.oneCell'])) (by unfold maxLen; omega) (by omega) (by have := HO.out.2.2; simp; omega) ?_; intro v6 w6 ho hg hn; have hb6 := (HO.out.2.1.alloc HO.out.2.2 (.cells #[.int .i64 a] 3)).grown hg (by have := HO.out.2.2; simp; omega) (fun k hk => (HO.out.1.lt k hk).1); have HO6 := Lib.hid (And.intro ho hb6); clear ho hg hn hb6))
        go_roundg k1
        case measure => omega
        case rel =>
          obtain ⟨hjk, hlj, hsn⟩ := HN.out
          refine ⟨j + 1, by go_num, Lib.hid ⟨by omega, l ++ [a], by rw [List.length_append, List.length_singleton, ints_app]; exact HO6.out.1, HO6.out.2, by rw [List.length_append, List.length_singleton]; omega, ?_⟩⟩
          rw [hsn]
          constructor
          · intro h; simp at h
          · intro h; exact absurd rfl h.2
      · have HN := Lib.hid (show j + 1 + k1 = es.length ∧ ∃ l : List Int, wr.ownsRow w3.heap.size 3 1 _ l.length (ints l) ∧ Below w3.heap.size w3 wr ∧ l.length ≤ j + 1 ∧ (l.length = 0 ↔ ∀ t p, t < j + 1 → es[t]? = some p → p.2.2 ≠ v) from
          ⟨by omega, l, ho, hb, by omega, by rw [hsn, hall]; exact ⟨fun h => ⟨h, hbv⟩, fun h => h.1⟩⟩)
        clear ho hb hall hx hxx hsn hjk hj hlj
        go_wp2
        go_roundg k1
        case measure => omega
        case rel => exact ⟨j + 1, by go_num, HN⟩
    · obtain rfl : j = es.length := by omega
      obtain ⟨Ao, co, rfl⟩ := Lw.own_slice ho
      have HQ := Lib.hid (show l.length ≤ es.length ∧ (l.length = 0 ↔ ∀ p ∈ es, p.2.2 ≠ v) ∧ Below w.heap.size w wr from ⟨hlj, by
        rw [hall]
        constructor
        · intro h p hp
          obtain ⟨t, ht, e1⟩ := List.getElem_of_mem hp
          exact h t p ht (by rw [List.getElem?_eq_getElem ht, e1])
        · intro h t p ht hp
          exact h p (List.mem_of_getElem? hp), HS.out.2.1.trans (hb.mono HS.out.2.1.size)⟩)
      clear ho hb hall hjk hj hlj
      go_wp2
      go_ret
      exact ⟨_, _, _, rfl, HQ.out⟩

end Go.Proofs.Ythomnpgpbhpojaa.Cd
