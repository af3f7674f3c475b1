/- The index's arcs, sorted. -/
import Derived.Test.YthomnpgpbhpojaaPo36
import Derived.Shelf.SlSortCmp.NoneTotal
import Derived.Test.YthomnpgpbhpojaaPo33
namespace Go.Proofs.Ythomnpgpbhpojaa.Cd
open Go Go.RowKit Go.Shelf Go.Lib Go.Sort Go.Proofs.Ythomnpgpbhpojaa.Mem Go.Proofs.Ythomnpgpbhpojaa.Lw
set_option linter.unusedSimpArgs false
set_option linter.unusedVariables false

def alt (x y : Int × Int) : Prop := x.1 < y.1 ∨ (x.1 = y.1 ∧ x.2 < y.2)
theorem lt_alt (x y : Int × Int) : ltOf acmp x y = true ↔ alt x y := by
  unfold ltOf alt
  rw [decide_eq_true_eq]
  exact acmp_lt x y
theorem lt_altF (x y : Int × Int) : ltOf acmp x y = false ↔ ¬ alt x y := by
  rw [← lt_alt]
  simp
theorem alt_total {x y : Int × Int} (h1 : ¬ alt x y) (h2 : ¬ alt y x) : x = y := by
  unfold alt at h1 h2
  obtain ⟨a, b⟩ := x
  obtain ⟨c, d⟩ := y
  simp only [Prod.mk.injEq] at *
  omega
theorem alt_trans {x y z : Int × Int} (h1 : alt x y) (h2 : alt y z) : alt x z := by
  unfold alt at *
  omega
theorem swoA : SWO (ltOf acmp) where
  irrefl x := by rw [lt_altF]; unfold alt; omega
  trans x y z h1 h2 := by rw [lt_alt] at *; exact alt_trans h1 h2
  ntrans x y z h1 h2 := by
    rw [lt_altF] at *
    unfold alt at *
    omega
theorem flat_arcs (l : List (Int × Int)) : (flatK encA 2 l.toArray).toList = arcs2 l := by
  apply List.ext_getElem?
  intro j
  rcases Nat.lt_or_ge j (l.length * 2) with h | h
  · have hj2 : j / 2 < l.length := by omega
    obtain ⟨⟨a, b⟩, hx⟩ : ∃ x, l[j / 2]? = some x := ⟨_, List.getElem?_eq_getElem hj2⟩
    obtain ⟨e1, e2⟩ := arcs2_at l (j / 2) a b hx
    have hd : l.toArray[j / 2]! = (a, b) := by simp [getElem!_def, hx]
    rw [Array.getElem?_toList]
    unfold flatK
    rw [Array.getElem?_map, Array.getElem?_range, if_pos (by simpa using h), Option.map_some, hd]
    rcases Nat.mod_two_eq_zero_or_one j with hm | hm
    · rw [hm, show j = j / 2 * 2 by omega, e1]; rfl
    · rw [hm, show j = j / 2 * 2 + 1 by omega, e2]; rfl
  · rw [List.getElem?_eq_none (by rw [Array.length_toList, size_flatK]; simpa using h), List.getElem?_eq_none (by rw [arcs2_length]; exact h)]
section
variable {w : World} {base g n c : Nat} {e : TypeId} {l : List (Int × Int)}
theorem holds_arcs (h : w.ownsRow base e 2 (.slice (some ⟨g, 0, none⟩) n c) n (arcs2 l)) : HoldsK encA 2 w g 0 l.toArray := fun j hj => by
  have hl := h.1
  rw [size_flatK] at hj
  have hj2 : j < n * 2 := by
    rw [arcs2_length] at hl
    simp at hj
    omega
  refine ⟨?_, h.frozenAt _⟩
  rw [Nat.zero_add, h.cellAt j hj2, ← flat_arcs, Array.getElem?_toList, Array.getElem?_eq_getElem (by rw [size_flatK]; exact hj)]
  simp [getElem!_def, size_flatK, hj]
  rw [Array.getElem?_eq_getElem (by rw [size_flatK]; simpa using hj)]
theorem own_sortedA {q : Nat} {os : Array Obj} {m : List (Int × Int)} (h : w.ownsRow base e 2 (.slice (some ⟨g, 0, none⟩) n c) n (arcs2 l)) (hm : m.length = l.length) :
    (sortWorldK encA 2 w g 0 q m.toArray os).ownsRow base e 2 (.slice (some ⟨g, 0, none⟩) n c) n (arcs2 m) ∧ Kpt (fun k => k = g) w (sortWorldK encA 2 w g 0 q m.toArray os) := by
  have hl := h.1
  rw [arcs2_length] at hl
  rcases h.2 with ⟨e0, _⟩ | ⟨g', cap', cur, e0, hb, hg, hn, hmx, hs, ht⟩
  · cases e0
  · cases e0
    have hlt := lt_of_block hg
    refine ⟨⟨by rw [arcs2_length]; omega, .inr ⟨g, c, putCells id 0 (flatK encA 2 m.toArray) cur, rfl, hb, ?_, hn, hmx, by simpa [putCells] using hs, ?_⟩⟩, ?_⟩
    · unfold sortWorldK putRowK grow
      rw [Array.getElem?_append_left (by simpa [putRow, mapBlock, Sort.ahead] using hlt)]
      simp [putRow, mapBlock, Sort.ahead, Array.getElem?_modify, hg, onCells]
    · have hfs : (flatK encA 2 m.toArray).size = n * 2 := by rw [size_flatK]; simp; omega
      apply List.ext_getElem?
      intro j
      rw [List.getElem?_take, Array.getElem?_toList]
      rcases Nat.lt_or_ge j (n * 2) with hj | hj
      · have hjc : j < cur.size := by rw [hs]; exact Nat.lt_of_lt_of_le hj (Nat.mul_le_mul_right _ hn)
        rw [if_pos hj]
        simp only [putCells, Array.getElem?_mapIdx, Array.getElem?_eq_getElem hjc, Option.map_some]
        rw [if_pos (by omega), ← flat_arcs, Array.getElem?_toList, Array.getElem?_eq_getElem (by omega)]
        simp [getElem!_def, hfs, hj]
      · rw [if_neg (by omega), List.getElem?_eq_none (by rw [arcs2_length]; omega)]
    · unfold sortWorldK putRowK grow
      refine ⟨rfl, rfl, rfl, by simp [putRow, mapBlock, Sort.ahead], fun k hk hne => ?_⟩
      rw [Array.getElem?_append_left (by simpa [putRow, mapBlock, Sort.ahead] using hk)]
      have hne : g ≠ k := fun e => hne e.symm
      simp [putRow, mapBlock, Sort.ahead, Array.getElem?_modify, hne]
end
theorem sortArcs_calls (w : World) (base g n c : Nat) (l : List (Int × Int)) (h : w.ownsRow base 69 2 (.slice (some ⟨g, 0, none⟩) n c) n (arcs2 l)) (hn : n ≤ 1000) :
    Calls Try.prog 39 #[.slice (some ⟨g, 0, none⟩) n c, .func (.func 40) #[] #[]] w fun e w' => e = .returned (.tuple #[]) ∧ ∃ m : List (Int × Int), m.length = l.length ∧ (∀ x, x ∈ m ↔ x ∈ l) ∧ (m.Pairwise fun x y => alt x y ∨ x = y) ∧ w'.ownsRow base 69 2 (.slice (some ⟨g, 0, none⟩) n c) n (arcs2 m) ∧ Kpt (fun k => k = g) w w' := by
  have hl : l.length = n := by have := h.1; rw [arcs2_length] at this; omega
  have eg : ∀ args w, (callFunc 40 args).run Try.prog w = .ok (.enter 40 args) w := enters_of Try.func40 (by kernel_rfl) rfl
  have hlt : g < w.heap.size := (h.lt g rfl).2
  have hcon := AnyQ.slices_SortFunc_total Try.sortArc 2 Try.isAgg69 Try.sizeOf69 encA (fun _ => rfl) (fun x v hv => by simp [encA] at hv; rcases hv with rfl | rfl <;> rfl) acmp swoA 40 #[] g 0 c l.toArray w eg (fun _ _ _ _ x y => acmp_calls x.1 x.2 y.1 y.2 _) (holds_arcs h) hlt (by simp; omega) (fun x y h1 h2 => alt_total ((lt_altF x y).1 h1) ((lt_altF y x).1 h2))
  change Calls Try.prog 39 _ _ _ at hcon
  have hsz : l.toArray.size = n := by simp [hl]
  rw [hsz] at hcon
  refine hcon.mono ?_
  rintro e w' ⟨rfl, q, os, rfl⟩
  have hp := List.mergeSort_perm l.toArray.toList fun x y => !(ltOf acmp) y x
  have hlen : (l.toArray.toList.mergeSort fun x y => !(ltOf acmp) y x).length = l.length := by rw [hp.length_eq]
  obtain ⟨ho, hk⟩ := own_sortedA (q := q) (os := os) h hlen
  refine ⟨rfl, _, hlen, fun x => by simp, ?_, ho, hk⟩
  have hs := List.pairwise_mergeSort (le := fun x y => !(ltOf acmp) y x) (fun a b d h1 h2 => by
    simp only [Bool.not_eq_true'] at *
    exact swoA.ntrans _ _ _ h2 h1) (fun a b => by
    simp only [Bool.or_eq_true, Bool.not_eq_true', lt_altF]
    unfold alt
    omega) l.toArray.toList
  refine hs.imp fun {x y} hxy => ?_
  simp only [Bool.not_eq_true', lt_altF] at hxy
  by_cases hx : alt x y
  · exact .inl hx
  · exact .inr (alt_total hx hxy)
theorem sortArcs_none (w : World) (p : Option Addr) (c : Nat) (fv : Value) : Calls Try.prog 39 #[.slice p 0 c, fv] w fun e w' => e = .returned (.tuple #[]) ∧ w' = w :=
  AnyF.slices_SortFunc_none Try.sortArc p c fv w
end Go.Proofs.Ythomnpgpbhpojaa.Cd

/- Arcs of the index. -/
namespace Go.Proofs.Ythomnpgpbhpojaa.Cd
open Go Go.RowKit Go.MapKept Go.Proofs.Ythomnpgpbhpojaa.Mem Go.Proofs.Ythomnpgpbhpojaa.Sl Go.Proofs.Ythomnpgpbhpojaa.Scc Go.Proofs.Ythomnpgpbhpojaa.Tj Go.Proofs.Ythomnpgpbhpojaa.Lw Go.Proofs.Ythomnpgpbhpojaa.Pt Go.Proofs.YthomnpgpbhpojaaW.PrintWords Go.Proofs.YthomnpgpbhpojaaW.PrintLast
attribute [local go_sem ↓] Go.wp_at_zero Go.wp_at_succ
set_option linter.unusedSimpArgs false
set_option linter.unusedVariables false

set_option maxHeartbeats 4000000 in
theorem compact_short (w : World) (A : Option Addr) (n c : Nat) (hn : n < 2) : Calls Try.prog 43 #[.slice A n c] w fun e w' => e = .returned (.slice A n c) ∧ w' = w := by
  have i2 : (n : Int) < 2 := by omega
  clear hn
  go_enter Try.func43, Try.ntmps43
  go_wp2
  go_ret
  exact ⟨rfl, rfl⟩
section
variable {w w' : World} {gc ga go gi gp gm : Nat} {lk : Int} {arcs : Int → Option (Int × Int)} {ob ib : Int → Nat} {cls : Int → Option Nat} {row : Nat → List Int} {val : Nat → Value} {tg : Nat → Nat × Int} {pb cb : Nat → Prop}
theorem arF_iff {e : Int} {x : Value} : arF arcs e = some x ↔ ∃ p, arcs e = some p ∧ x = aV p := by
  unfold arF
  cases h : arcs e with
  | none => simp
  | some p => simp [eq_comm]
theorem squeeze_calls (W : World) (base n c : Nat) (A : Option Addr) (l : List (Int × Int)) (ho : W.ownsRow base 69 2 (.slice A n c) n (arcs2 l)) (hn : n ≤ 1000) :
    Calls Try.prog 39 #[.slice A n c, .func (.func 40) #[] #[]] W fun e W1 => e = .returned (.tuple #[]) ∧ Calls Try.prog 43 #[.slice A n c] W1 fun e W2 => ∃ u m, e = .returned u ∧ W2.ownsRow base 69 2 u m.length (arcs2 m) ∧ (∀ k, k < base → k < W.heap.size → W2.heap[k]? = W.heap[k]?) ∧ Kpt (fun k => base ≤ k) W W2 ∧ m.Pairwise alt ∧ m.length ≤ n ∧ ∀ x, x ∈ m ↔ x ∈ l := by
  have hl : l.length = n := by have := ho.1; rw [arcs2_length] at this; omega
  rcases Nat.eq_zero_or_pos n with h0 | h0
  · subst h0
    have hnil := List.length_eq_zero_iff.1 hl
    subst hnil
    refine (sortArcs_none W A c _).mono fun e W1 ⟨he, hw⟩ => ⟨he, ?_⟩
    subst hw
    exact (compact_short _ A 0 c (by omega)).mono fun e W2 ⟨he, hw⟩ => ⟨_, [], he, hw ▸ ho, fun k _ _ => by rw [hw], hw ▸ Kpt.refl _ _, List.Pairwise.nil, by simp, fun x => Iff.rfl⟩
  · obtain ⟨g, cap, hv, hb, _⟩ := ho.form h0
    cases hv
    refine (sortArcs_calls W base g n c l ho hn).mono fun e W1 ⟨he, m, hml, hmm, hms, hom, hk⟩ => ⟨he, ?_⟩
    refine (compactA_calls W1 base g n c m hom (by omega) hn).mono fun e W2 ⟨k, he, hkl, ho2, hk2⟩ => ⟨_, dd m, he, hkl ▸ ho2, fun k hk0 hk1 => ?_, (hk.mono fun k _ e => by omega).trans (hk2.mono fun k _ e => by omega), dd_up (R := alt) (fun _ _ _ h1 h2 => alt_trans h1 h2) m hms, (by have := dd_len m; omega), fun x => (dd_mem m x).trans (hmm x)⟩
    rw [hk2.block k (by have := hk.size; omega) (by omega), hk.block k hk1 (by omega)]
set_option maxHeartbeats 8000000 in
set_option maxRecDepth 100000 in
theorem cArcs (h : CdS w gc ga go gi gp gm lk arcs ob ib cls row val tg pb cb) (hrl : ∀ v b, cls v = some b → (row b).length ≤ 500000) :
    Calls Try.prog 18 #[.pointer (some ⟨gc, 0, none⟩)] w fun e w' => ∃ u l, e = .returned u ∧ w'.ownsRow w.heap.size 69 2 u l.length (arcs2 l) ∧ Below w.heap.size w w' ∧ l.Pairwise alt ∧ l.length ≤ 1000 ∧ ∀ x, x ∈ l ↔ ∃ e a b, arcs e = some (a, b) ∧ x = (headV cls row a, headV cls row b) ∧ headV cls row a ≠ headV cls row b := by
  obtain ⟨i1, hi1, hz1, hs1, hy1⟩ := info_parts Lw.info_arc
  obtain ⟨K, hK, hKm⟩ := h.fin
  have q0 := h.m.hc.cell 0 rfl
  obtain ⟨o, hrun, hMR⟩ := h.m.ha.range (P := Try.prog) Try.underlying53
  have HX := Lib.hid (And.intro hMR (And.intro hK hKm))
  have HB := Lib.hid ((Below.refl w.heap.size w).alloc (Nat.le_refl _) o)
  have HH := Lib.hid (fun (W : World) (hb : Below w.heap.size w W) (v : Int) => cHead (h.below hb) v hrl)
  clear h hK hKm hMR hrl
  go_enter Try.func18, Try.ntmps18
  go_wp2_with fail
  refine gen_world (fun W => MR W w.heap.size ga (arF arcs) [] ∧ Below w.heap.size w W) ⟨HX.out.1, HB.out⟩ ?_
  obtain ⟨r, hr⟩ : ∃ r, w.heap.size = r := ⟨_, rfl⟩
  have HR := Lib.hid hr
  rw [hr]
  rintro w1 ⟨hM, hb⟩
  rw [← hr] at hb
  have H1 := Lib.hid (And.intro hM hb)
  clear hM hb hr HB hrun q0
  have hdone : ∀ {W : World} {done : List Int}, MR W r ga (arF arcs) done → done.length ≤ K.length := fun hM => nodup_le hM.2.1 fun x hx => by
    obtain ⟨u, hu⟩ := hM.all x hx
    obtain ⟨p, hp, _⟩ := arF_iff.1 hu
    exact HX.out.2.2 x (by rw [hp]; simp)
  go_loopg [3] (K.length + 1) (fun kq v3 w' => Hid (∃ done l, done.length + kq = K.length + 1 ∧ l.length ≤ done.length ∧ MR w' r ga (arF arcs) done ∧ w'.ownsRow w.heap.size 69 2 v3 l.length (arcs2 l) ∧ Below w.heap.size w w' ∧ ∀ x, x ∈ l ↔ ∃ e ∈ done, ∃ a b, arcs e = some (a, b) ∧ x = (headV cls row a, headV cls row b) ∧ headV cls row a ≠ headV cls row b))
  case atStart => exact Lib.hid ⟨[], [], by simp, by simp, H1.out.1, World.ownsRow_nil _ _ _ _, H1.out.2, fun y => by simp⟩
  case round =>
    obtain ⟨done, l, hdk, hdl, hM, ho, hb, hl⟩ := hrel.out
    clear hrel H1
    have hdK := hdone hM
    have hK := HX.out.2.1
    rcases hM.next (P := Try.prog) 0 with ⟨hall, hnx⟩ | ⟨e, u, w2, hf, hnd, hnx, hM2, hg, hsz, hent⟩
    · have hmem : ∀ x, x ∈ l ↔ ∃ e a b, arcs e = some (a, b) ∧ x = (headV cls row a, headV cls row b) ∧ headV cls row a ≠ headV cls row b := fun x => by
        rw [hl x]
        constructor
        · rintro ⟨e, _, h⟩; exact ⟨e, h⟩
        · rintro ⟨e, a, b, h, h'⟩; exact ⟨e, hall e _ (arF_iff.2 ⟨_, h, rfl⟩), a, b, h, h'⟩
      obtain ⟨A, c, rfl⟩ := Lw.own_slice ho
      have hS := squeeze_calls wr w.heap.size l.length c A l ho (by omega)
      have HS := Lib.hid hS
      have HO := Lib.hid (And.intro hb (And.intro hmem (show l.length ≤ 1000 by omega)))
      obtain ⟨n, hn⟩ : ∃ n, l.length = n := ⟨_, rfl⟩
      rw [hn] at HS HO ⊢
      clear hM ho hb hl hall hdK hdl hdk hmem hS hn
      go_wp2_with fail
      refine HS.out.mono ?_
      clear HS
      rintro e w3 ⟨rfl, hC⟩
      have HC := Lib.hid hC
      clear hC
      go_wp2_with fail
      refine HC.out.mono ?_
      clear HC
      rintro e w4 ⟨u, m, rfl, hom, hbk, hkp, hup, hml, hmm⟩
      have HZ := Lib.hid (show w4.ownsRow w.heap.size 69 2 u m.length (arcs2 m) ∧ Below w.heap.size w w4 ∧ m.Pairwise alt ∧ m.length ≤ 1000 ∧ ∀ x, x ∈ m ↔ ∃ e a b, arcs e = some (a, b) ∧ x = (headV cls row a, headV cls row b) ∧ headV cls row a ≠ headV cls row b from ⟨hom, HO.out.1.trans (hkp.to_below fun k hk => ⟨Nat.lt_of_lt_of_le hk HO.out.1.size, by omega⟩), hup, Nat.le_trans hml HO.out.2.2, fun x => (hmm x).trans (HO.out.2.1 x)⟩)
      clear hom hbk hkp hup hml hmm
      go_wp2
      go_ret
      exact ⟨_, m, rfl, HZ.out⟩
    · obtain ⟨k1, rfl⟩ : ∃ k1, gk = k1 + 1 := ⟨gk - 1, by omega⟩
      obtain ⟨⟨a, b⟩, hab, rfl⟩ := arF_iff.1 hf
      unfold aV at hnx hent
      have hb2 : Below w.heap.size w w2 := hb.grown hg hb.size (fun k hk => by cases hk; have := HR.out; omega)
      have ho2 : w2.ownsRow w.heap.size 69 2 u3 l.length (arcs2 l) := ho.kept hg (.inr fun e => mr_own hM ho e.symm)
      have hd2 := hdone hM2
      rw [List.length_append, List.length_singleton] at hd2
      have hll : l.length ≤ 1000 := by omega
      obtain ⟨hu, hhu⟩ : ∃ x, headV cls row a = x := ⟨_, rfl⟩
      obtain ⟨hv, hhv⟩ : ∃ x, headV cls row b = x := ⟨_, rfl⟩
      have hmem : ∀ x, (∃ e' ∈ done ++ [e], ∃ a b, arcs e' = some (a, b) ∧ x = (headV cls row a, headV cls row b) ∧ headV cls row a ≠ headV cls row b) ↔ (x ∈ l ∨ (x = (hu, hv) ∧ hu ≠ hv)) := fun x => by
        rw [hl x]
        constructor
        · rintro ⟨e', he', a', b', h1, h2⟩
          rcases List.mem_append.1 he' with h | h
          · exact .inl ⟨e', h, a', b', h1, h2⟩
          · obtain rfl : e' = e := by simpa using h
            rw [hab] at h1
            cases h1
            rw [hhu, hhv] at h2
            exact .inr h2
        · rintro (⟨e', h, h'⟩ | h)
          · exact ⟨e', by simp [h], h'⟩
          · exact ⟨e, by simp, a, b, hab, by rw [hhu, hhv]; exact h⟩
      have HN := Lib.hid (And.intro hmem (And.intro hdk hdl))
      have HM := Lib.hid (And.intro hM2 (And.intro ho2 hb2))
      clear hM ho hb hl hnd hM2 hg hsz ho2 hb2 hmem hf hdk hdl hdK hd2 hK hab
      go_upto_region 5 with (fail)
      refine gen_world (fun W => At W w2.heap.size [.int .i64 a, .int .i64 b] 69 ∧ MR W r ga (arF arcs) (done ++ [e]) ∧ W.ownsRow w.heap.size 69 2 u3 l.length (arcs2 l) ∧ Below w.heap.size w W) ?_ ?_
      · exact ⟨At.made rfl rfl, HM.out.1.below ((Below.refl _ _).alloc (Nat.le_refl _) _), Lw.own_below HM.out.2.1 ((Below.refl _ _).alloc (Nat.le_refl _) _), HM.out.2.2.alloc HM.out.2.2.size _⟩
      obtain ⟨g7, hg7⟩ : ∃ g7, w2.heap.size = g7 := ⟨_, rfl⟩
      rw [hg7]
      clear hg7 HM hnx hent
      rintro w3 ⟨hat, hM3, ho3, hb3⟩
      have qa := hat.cell 0 rfl
      have qb := hat.cell 1 rfl
      have hA1 := HH.out w3 hb3 a
      have hA2 := HH.out w3 hb3 b
      rw [hhu] at hA1
      rw [hhv] at hA2
      have HA1 := Lib.hid hA1
      have HA2 := Lib.hid hA2
      have HO := Lib.hid ho3
      have H3 := Lib.hid (And.intro hM3 hb3)
      clear hat hM3 ho3 hb3 hA1 hA2 hhu hhv
      go_wp2_with fail
      refine HA1.out.mono ?_
      clear HA1
      rintro e1 w4 ⟨rfl, hw4⟩
      obtain rfl : w3 = w4 := hw4.symm
      go_wp2_with fail
      refine HA2.out.mono ?_
      clear HA2
      rintro e2 w5 ⟨rfl, hw5⟩
      obtain rfl : w3 = w5 := hw5.symm
      by_cases huv : hu = hv
      · have HNN := Lib.hid (show ∃ done' l', done'.length + k1 = K.length + 1 ∧ l'.length ≤ done'.length ∧ MR w3 r ga (arF arcs) done' ∧ w3.ownsRow w.heap.size 69 2 u3 l'.length (arcs2 l') ∧ Below w.heap.size w w3 ∧ ∀ x, x ∈ l' ↔ ∃ e ∈ done', ∃ a b, arcs e = some (a, b) ∧ x = (headV cls row a, headV cls row b) ∧ headV cls row a ≠ headV cls row b from by
          obtain ⟨hmem, hdk, hdl⟩ := HN.out
          refine ⟨done ++ [e], l, by rw [List.length_append, List.length_singleton]; omega, by rw [List.length_append]; omega, H3.out.1, HO.out, H3.out.2, fun x => ?_⟩
          rw [hmem x]
          exact ⟨.inl, fun h => h.elim id fun h => absurd huv h.2⟩)
        subst huv
        clear qa qb
        go_wp2
        go_roundg k1
        case measure => omega
        case rel => exact HNN
      · clear qa qb
        go_wp2_with ((at_builtin; refine wpList_append_any rfl (.tmp 36) (.tmp 40) 50 rfl w.heap.size 69 i1 (.agg #[.int .i64 0, .int .i64 0]) 2 16 Try.underlying50 hi1 hz1 hs1 hy1 rfl (by omega) _ _ _ rfl (HO.out.alloc (.cells #[.int .i64 hu, .int .i64 hv] 69)) _ rfl 1 [.int .i64 hu, .int .i64 hv] (RdV.lit _ #[.int .i64 hu, .int .i64 hv] 69 1 2 1 rfl (by simp [Value.oneCell'])) (by unfold maxLen; omega) (by omega) (by have := H3.out.2.size; simp; omega) ?_; intro v5 w5 ho hg hn; have hMa := H3.out.1.below ((Below.refl _ _).alloc (Nat.le_refl _) (.cells #[.int .i64 hu, .int .i64 hv] 69)); have hm5 := hMa.move (w' := w5) (hg.block ga hMa.1.lt (hMa.1.own (HO.out.alloc (.cells #[.int .i64 hu, .int .i64 hv] 69)))) (hg.block r hMa.lt (mr_own hMa (HO.out.alloc (.cells #[.int .i64 hu, .int .i64 hv] 69)))); have hb5 := (H3.out.2.alloc H3.out.2.size (.cells #[.int .i64 hu, .int .i64 hv] 69)).grown hg (by have := H3.out.2.size; simp; omega) (fun k hk => (HO.out.lt k hk).1); have H5 := Lib.hid (And.intro ho (And.intro hm5 hb5)); clear ho hg hn hMa hm5 hb5))
        go_roundg k1
        case measure => omega
        case rel =>
          obtain ⟨ho, hm5, hb5⟩ := H5.out
          obtain ⟨hmem, hdk, hdl⟩ := HN.out
          refine Lib.hid ⟨done ++ [e], l ++ [(hu, hv)], by rw [List.length_append, List.length_singleton]; omega, by rw [List.length_append, List.length_append, List.length_singleton, List.length_singleton]; omega, hm5, by rw [List.length_append, arcs2_append]; exact ho, hb5, fun x => ?_⟩
          rw [hmem x, List.mem_append, List.mem_singleton]
          exact ⟨fun h => h.imp id fun h => ⟨h, huv⟩, fun h => h.imp id fun h => h.1⟩
end
end Go.Proofs.Ythomnpgpbhpojaa.Cd

/- Plain: the components' heads rise; lists of arcs that rise. -/
namespace Go.Proofs.Ythomnpgpbhpojaa.Cd
open Go Go.RowKit Go.Proofs.Ythomnpgpbhpojaa.Mem Go.Proofs.Ythomnpgpbhpojaa.Sl Go.Proofs.Ythomnpgpbhpojaa.Scc Go.Proofs.Ythomnpgpbhpojaa.Tj Go.Proofs.Ythomnpgpbhpojaa.Lw Go.Proofs.Ythomnpgpbhpojaa.Pt
set_option linter.unusedSimpArgs false
set_option linter.unusedVariables false

theorem fo_mem {l : List Nat} {m : Nat} (h : fo l 0 = some m) : ∀ (t q : Nat), t ≤ l.length → fo (l.take t) 0 = some q → ∀ c, c < q ↔ c ∈ l.take t
  | 0, q, _, hq, c => by
    rw [List.take_zero, fo] at hq
    cases hq
    simp
  | t + 1, q, ht, hq, c => by
    obtain ⟨q0, hq0⟩ := fo_take l 0 m t h
    obtain ⟨h1, h2, h3⟩ := fo_next l 0 m t q0 h hq0 (by omega)
    have ih := fo_mem h t q0 (by omega) hq0
    rw [h1] at hq
    rw [List.take_add_one, List.getElem?_eq_getElem (by omega), List.mem_append, ← ih c]
    simp only [Option.toList_some, List.mem_singleton]
    split at hq
    · rename_i hlt
      cases hq
      exact ⟨.inl, fun h => h.elim id fun e => e ▸ hlt⟩
    · rename_i hlt
      cases hq
      have : l[t] = q0 := by omega
      rw [this]
      omega
theorem alt_irrefl (x : Int × Int) : ¬ alt x x := by unfold alt; omega
theorem alt_ext : ∀ {a b : List (Int × Int)}, a.Pairwise alt → b.Pairwise alt → (∀ x, x ∈ a ↔ x ∈ b) → a = b
  | [], [], _, _, _ => rfl
  | [], y :: b, _, _, h => absurd ((h y).2 (by simp)) (by simp)
  | x :: a, [], _, _, h => absurd ((h x).1 (by simp)) (by simp)
  | x :: a, y :: b, h1, h2, h => by
    rw [List.pairwise_cons] at h1 h2
    have e : x = y := by
      rcases List.mem_cons.1 ((h x).1 (by simp)) with e | e
      · exact e
      · rcases List.mem_cons.1 ((h y).2 (by simp)) with e' | e'
        · exact e'.symm
        · exact absurd (alt_trans (h1.1 y e') (h2.1 x e)) (alt_irrefl x)
    subst e
    rw [alt_ext h1.2 h2.2 fun z => ?_]
    constructor
    · intro hz
      rcases List.mem_cons.1 ((h z).1 (by simp [hz])) with e | e
      · exact absurd (e ▸ h1.1 z hz) (alt_irrefl x)
      · exact e
    · intro hz
      rcases List.mem_cons.1 ((h z).2 (by simp [hz])) with e | e
      · exact absurd (e ▸ h2.1 z hz) (alt_irrefl x)
      · exact e
end Go.Proofs.Ythomnpgpbhpojaa.Cd
