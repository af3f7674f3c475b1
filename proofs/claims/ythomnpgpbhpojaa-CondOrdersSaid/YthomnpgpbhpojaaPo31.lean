/- The reference's DropEdge. -/
import Derived.Test.YthomnpgpbhpojaaPo5
import Derived.Test.YthomnpgpbhpojaaPo30
namespace Go.Proofs.Ythomnpgpbhpojaa.Cd
open Go Go.RowKit Go.MapKept Go.Proofs.Ythomnpgpbhpojaa.Mem Go.Proofs.Ythomnpgpbhpojaa.Sl Go.Proofs.Ythomnpgpbhpojaa.Lw Go.Proofs.Ythomnpgpbhpojaa.Pt Go.Proofs.YthomnpgpbhpojaaW.PrintWords Go.Proofs.YthomnpgpbhpojaaW.PrintLast
attribute [local go_sem ↓] Go.wp_at_zero Go.wp_at_succ
set_option linter.unusedSimpArgs false
set_option linter.unusedVariables false


set_option maxHeartbeats 8000000 in
set_option maxRecDepth 100000 in
theorem dropE_no {gw : Int} (w : World) (A AE : Option Addr) (n c m ce : Nat) (es : List (Int × Int × Int)) (e : Int) (he : RdG w AE es) (hm : es.length = m) (hr : m ≤ 1000) (hin : ∀ p ∈ es, p.1 ≠ e) :
    Calls Try.prog 52 #[gV A n c (.slice AE m ce) gw, .int .i64 e] w fun en w' => en = .returned (.tuple #[gV A n c (.slice AE m ce) gw, .agg #[.int .i64 0, .int .i64 0, .int .i64 0, .int .u32 0], .int .i64 6]) ∧ Below w.heap.size w w' := by
  have hac := fun (W : World) (hW : Below w.heap.size w W) => at_calls (gw := gw) W A AE n c ce es e (he.below hW) (by omega)
  simp only [atI_no hin, hm] at hac
  unfold gV at hac ⊢
  have HAC := Lib.hid hac
  clear he hm hin hac
  go_enter Try.func52, Try.ntmps52
  go_wp2_with fail
  have hb2 : Below w.heap.size w (((w.alloc (.cells #[.slice A n c, .slice AE m ce, .int .i64 0, .int .i64 gw] 28)).alloc (.cells #[.slice none 0 0, .slice none 0 0, .int .i64 0, .int .i64 0] 28)).alloc (.cells #[.int .i64 0, .int .i64 0, .int .i64 0, .int .u32 0] 36)) := (((Below.refl _ _).alloc (Nat.le_refl _) _).alloc (by simp) _).alloc (by simp; omega) _
  refine (HAC.out _ hb2).mono ?_
  rintro en w3 ⟨rfl, hb3⟩
  have hat1 : At w3 w.heap.size [.slice A n c, .slice AE m ce, .int .i64 0, .int .i64 gw] 28 := (((At.made (w := w) (a := #[.slice A n c, .slice AE m ce, .int .i64 0, .int .i64 gw]) rfl rfl).al).al).below hb3 (by simp; omega)
  have hat2 : At w3 (w.heap.size + 1) [.slice none 0 0, .slice none 0 0, .int .i64 0, .int .i64 0] 28 := ((At.made (by simp) rfl).al).below hb3 (by simp)
  have hat3 : At w3 (w.heap.size + 1 + 1) [.int .i64 0, .int .i64 0, .int .i64 0, .int .u32 0] 36 := (At.made (by simp) rfl).below hb3 (by simp)
  have hb := hb2.trans (hb3.mono (by simp; omega))
  clear hb2 hb3 HAC
  have q0 := hat1.cell 0 rfl
  have f0 := hat2.free 0
  have r0 := hat2.cell 0 rfl
  have q1 := hat1.cell 1 rfl
  have f1 := hat2.free 1
  have r1 := hat2.cell 1 rfl
  have q2 := hat1.cell 2 rfl
  have f2 := hat2.free 2
  have r2 := hat2.cell 2 rfl
  have q3 := hat1.cell 3 rfl
  have f3 := hat2.free 3
  have r3 := hat2.cell 3 rfl
  have hat2b : At ((((w3.setCell ⟨w.heap.size + 1, 0, none⟩ (.slice A n c)).setCell ⟨w.heap.size + 1, 1, none⟩ (.slice AE m ce)).setCell ⟨w.heap.size + 1, 2, none⟩ (.int .i64 0)).setCell ⟨w.heap.size + 1, 3, none⟩ (.int .i64 gw)) (w.heap.size + 1) [.slice A n c, .slice AE m ce, .int .i64 0, .int .i64 gw] 28 := (((hat2.put rfl).put rfl).put rfl).put rfl
  have hat3b : At ((((w3.setCell ⟨w.heap.size + 1, 0, none⟩ (.slice A n c)).setCell ⟨w.heap.size + 1, 1, none⟩ (.slice AE m ce)).setCell ⟨w.heap.size + 1, 2, none⟩ (.int .i64 0)).setCell ⟨w.heap.size + 1, 3, none⟩ (.int .i64 gw)) (w.heap.size + 1 + 1) [.int .i64 0, .int .i64 0, .int .i64 0, .int .u32 0] 36 := (((hat3.off (by omega)).off (by omega)).off (by omega)).off (by omega)
  have g0 := hat3b.free 0
  have s0 := hat3b.cell 0 rfl
  have g1 := hat3b.free 1
  have s1 := hat3b.cell 1 rfl
  have g2 := hat3b.free 2
  have s2 := hat3b.cell 2 rfl
  have g3 := hat3b.free 3
  have s3 := hat3b.cell 3 rfl
  have hat2c : At ((((((((w3.setCell ⟨w.heap.size + 1, 0, none⟩ (.slice A n c)).setCell ⟨w.heap.size + 1, 1, none⟩ (.slice AE m ce)).setCell ⟨w.heap.size + 1, 2, none⟩ (.int .i64 0)).setCell ⟨w.heap.size + 1, 3, none⟩ (.int .i64 gw)).setCell ⟨w.heap.size + 1 + 1, 0, none⟩ (.int .i64 0)).setCell ⟨w.heap.size + 1 + 1, 1, none⟩ (.int .i64 0)).setCell ⟨w.heap.size + 1 + 1, 2, none⟩ (.int .i64 0)).setCell ⟨w.heap.size + 1 + 1, 3, none⟩ (.int .u32 0)) (w.heap.size + 1) [.slice A n c, .slice AE m ce, .int .i64 0, .int .i64 gw] 28 := (((hat2b.off (by omega)).off (by omega)).off (by omega)).off (by omega)
  have hat3c : At ((((((((w3.setCell ⟨w.heap.size + 1, 0, none⟩ (.slice A n c)).setCell ⟨w.heap.size + 1, 1, none⟩ (.slice AE m ce)).setCell ⟨w.heap.size + 1, 2, none⟩ (.int .i64 0)).setCell ⟨w.heap.size + 1, 3, none⟩ (.int .i64 gw)).setCell ⟨w.heap.size + 1 + 1, 0, none⟩ (.int .i64 0)).setCell ⟨w.heap.size + 1 + 1, 1, none⟩ (.int .i64 0)).setCell ⟨w.heap.size + 1 + 1, 2, none⟩ (.int .i64 0)).setCell ⟨w.heap.size + 1 + 1, 3, none⟩ (.int .u32 0)) (w.heap.size + 1 + 1) [(.int .i64 0), (.int .i64 0), (.int .i64 0), (.int .u32 0)] 36 := (((hat3b.put rfl).put rfl).put rfl).put rfl
  have t0 := hat2c.cell 0 rfl
  have u0 := hat3c.cell 0 rfl
  have t1 := hat2c.cell 1 rfl
  have u1 := hat3c.cell 1 rfl
  have t2 := hat2c.cell 2 rfl
  have u2 := hat3c.cell 2 rfl
  have t3 := hat2c.cell 3 rfl
  have u3 := hat3c.cell 3 rfl
  have HB := Lib.hid hb
  clear hat1 hat2 hat3 hat2b hat3b hat2c hat3c hb
  go_wp2
  refine bodyPost_ret (v := .tuple #[.agg #[.slice A n c, .slice AE m ce, .int .i64 0, .int .i64 gw], .agg #[.int .i64 0, .int .i64 0, .int .i64 0, .int .u32 0], .int .i64 6]) ?_ rfl ⟨rfl, ((((((((HB.out.setCell (by simp) _).setCell (by simp) _).setCell (by simp) _).setCell (by simp) _).setCell (by simp; omega) _).setCell (by simp; omega) _).setCell (by simp; omega) _).setCell (by simp; omega) _)⟩
  simp only [results]; go_simp
theorem edg_take (es : List (Int × Int × Int)) (i : Nat) : (edg es).take (i * 4) = edg (es.take i) := by
  induction es generalizing i with
  | nil => simp [edg]
  | cons p es ih =>
    cases i with
    | zero => simp [edg]
    | succ i => rw [edg_cons, show (i + 1) * 4 = i * 4 + 1 + 1 + 1 + 1 by omega, List.take_succ_cons, List.take_succ_cons, List.take_succ_cons, List.take_succ_cons, ih, List.take_succ_cons, edg_cons]
theorem edg_drop (es : List (Int × Int × Int)) (i : Nat) : (edg es).drop (i * 4) = edg (es.drop i) := by
  induction es generalizing i with
  | nil => simp [edg]
  | cons p es ih =>
    cases i with
    | zero => simp [edg]
    | succ i => rw [edg_cons, show (i + 1) * 4 = i * 4 + 1 + 1 + 1 + 1 by omega, List.drop_succ_cons, List.drop_succ_cons, List.drop_succ_cons, List.drop_succ_cons, ih, List.drop_succ_cons]
theorem edg_one (es : List (Int × Int × Int)) : ∀ u ∈ edg es, u.oneCell' = true := fun u hu => by
  unfold edg at hu
  obtain ⟨x, _, hx⟩ := List.mem_flatMap.1 hu
  simp only [List.mem_cons, List.not_mem_nil, or_false] at hx
  rcases hx with rfl | rfl | rfl | rfl <;> rfl
def Uni (es : List (Int × Int × Int)) : Prop := ∀ (i j : Nat) (p q : Int × Int × Int), es[i]? = some p → es[j]? = some q → p.1 = q.1 → i = j
theorem filter_e {es : List (Int × Int × Int)} (hu : Uni es) {i : Nat} {e : Int} {p : Int × Int × Int} (hi : es[i]? = some p) (he : p.1 = e) : es.filter (fun x => decide (x.1 ≠ e)) = es.take i ++ es.drop (i + 1) := by
  obtain ⟨hl, hp⟩ := List.getElem?_eq_some_iff.1 hi
  have h1 : es = es.take i ++ p :: es.drop (i + 1) := by
    rw [← hp, List.getElem_cons_drop, List.take_append_drop]
  conv => lhs; rw [h1]
  rw [List.filter_append, List.filter_cons, if_neg (by simp [he]), List.filter_eq_self.2, List.filter_eq_self.2]
  · intro x hx
    obtain ⟨j, hj⟩ := List.mem_iff_getElem?.1 hx
    rw [List.getElem?_drop] at hj
    have : x.1 ≠ e := fun h => by
      have := hu _ _ _ _ hj hi (h.trans he.symm)
      omega
    simpa using this
  · intro x hx
    obtain ⟨j, hj⟩ := List.mem_iff_getElem?.1 hx
    rw [List.getElem?_take] at hj
    split at hj
    · have : x.1 ≠ e := fun h => by
        have := hu _ _ _ _ hj hi (h.trans he.symm)
        omega
      simpa using this
    · cases hj
set_option maxHeartbeats 8000000 in
set_option maxRecDepth 100000 in
theorem dropE_yes {gw : Int} (w : World) (A AE : Option Addr) (n c m ce i : Nat) (es : List (Int × Int × Int)) (e u v : Int) (he : w.ownsRow 0 36 4 (.slice AE m ce) m (edg es)) (hm : es.length = m) (hr : m ≤ 1000) (hun : Uni es) (hin : es[i]? = some (e, u, v)) :
    Calls Try.prog 52 #[gV A n c (.slice AE m ce) gw, .int .i64 e] w fun en w' => ∃ A' c', en = .returned (.tuple #[gV A n c (.slice A' (m - 1) c') (wrap64 (gw + 1)), .agg #[.int .i64 e, .int .i64 u, .int .i64 v, .int .u32 0], .int .i64 0]) ∧ w'.ownsRow w.heap.size 36 4 (.slice A' (m - 1) c') (m - 1) (edg (es.filter fun x => decide (x.1 ≠ e))) ∧ Below w.heap.size w w' := by
  obtain ⟨i4, hi4, hz4, hs4, hy4⟩ := info_parts info_edge
  have hi : i < m := by rw [← hm]; exact (List.getElem?_eq_some_iff.1 hin).1
  obtain ⟨e1, e2, e3, e4⟩ := edg_at es i e u v hin
  obtain ⟨g, rfl, hnc, hr1, AD, cD, hsl, hr2⟩ := RdV.cutR (P := Try.prog) (t := 26) (e := 36) Try.underlying26 hi4 hs4 he (edg_one es) hi
  have c1 := (he.cellAt (i * 4) (by omega)).trans e1
  have c2 := (he.cellAt (i * 4 + 1) (by omega)).trans e2
  have c3 := (he.cellAt (i * 4 + 2) (by omega)).trans e3
  have c4 := (he.cellAt (i * 4 + 3) (by omega)).trans e4
  have hrd := RdG.of_own he
  have hac := fun (W : World) (hW : Below w.heap.size w W) => at_calls (gw := gw) W A (some ⟨g, 0, none⟩) n c ce es e (hrd.below hW) (by omega)
  have hat : atI es e = (i : Int) := atI_yes hin rfl fun j q hj hq h => by
    have := hun _ _ _ _ hq hin h
    omega
  simp only [hat, hm] at hac
  rw [filter_e hun hin rfl, edg_append]
  rw [edg_take] at hr1
  rw [edg_drop] at hr2
  obtain ⟨X1, hX1⟩ : ∃ X, edg (es.take i) = X := ⟨_, rfl⟩
  obtain ⟨X2, hX2⟩ : ∃ X, edg (es.drop (i + 1)) = X := ⟨_, rfl⟩
  rw [hX1] at hr1 ⊢
  rw [hX2] at hr2 ⊢
  unfold gV at hac ⊢
  have HAC := Lib.hid hac
  have HR := Lib.hid (And.intro hr1 (And.intro hr2 (And.intro c1 (And.intro c2 (And.intro c3 c4)))))
  have hni : m - 1 = i + (m - (i + 1)) := by omega
  rw [hni]
  have j0 : (0 : Int) ≤ (i : Int) := by omega
  have j1 : (i : Int) < (m : Int) := by omega
  have j2 : (m : Int) ≤ 1000 := by omega
  have j3 : (m : Int) ≤ (ce : Int) := by omega
  have hpl : ¬ ((i : Int) < 0) := by omega
  clear he hm hun hin hac hat hrd hr1 hr2 hX1 hX2 hni e1 e2 e3 e4 c1 c2 c3 c4
  go_enter Try.func52, Try.ntmps52
  go_wp2_with fail
  have hb2 : Below w.heap.size w (((w.alloc (.cells #[.slice A n c, .slice (some ⟨g, 0, none⟩) m ce, .int .i64 0, .int .i64 gw] 28)).alloc (.cells #[.slice none 0 0, .slice none 0 0, .int .i64 0, .int .i64 0] 28)).alloc (.cells #[.int .i64 0, .int .i64 0, .int .i64 0, .int .u32 0] 36)) := (((Below.refl _ _).alloc (Nat.le_refl _) _).alloc (by simp) _).alloc (by simp; omega) _
  refine (HAC.out _ hb2).mono ?_
  rintro en w3 ⟨rfl, hb3⟩
  have hat1 : At w3 w.heap.size [.slice A n c, .slice (some ⟨g, 0, none⟩) m ce, .int .i64 0, .int .i64 gw] 28 := (((At.made (w := w) (a := #[.slice A n c, .slice (some ⟨g, 0, none⟩) m ce, .int .i64 0, .int .i64 gw]) rfl rfl).al).al).below hb3 (by simp; omega)
  have hat2 : At w3 (w.heap.size + 1) [.slice none 0 0, .slice none 0 0, .int .i64 0, .int .i64 0] 28 := ((At.made (by simp) rfl).al).below hb3 (by simp)
  have hat3 : At w3 (w.heap.size + 1 + 1) [.int .i64 0, .int .i64 0, .int .i64 0, .int .u32 0] 36 := (At.made (by simp) rfl).below hb3 (by simp)
  have hb := hb2.trans (hb3.mono (by simp; omega))
  clear hb2 hb3 HAC
  have c1 := (keep_at hb HR.out.2.2.1)
  have c2 := (keep_at hb HR.out.2.2.2.1)
  have c3 := (keep_at hb HR.out.2.2.2.2.1)
  have c4 := (keep_at hb HR.out.2.2.2.2.2)
  have q1 := hat1.cell 1 rfl
  have HA := Lib.hid (And.intro hat1 (And.intro hat2 (And.intro hat3 hb)))
  have HR3 := Lib.hid (And.intro (HR.out.1.below hb) (HR.out.2.1.below hb))
  clear hat1 hat2 hat3 hb HR
  go_upto_region 5 with (fail)
  refine gen_world (fun W => At W w.heap.size [.slice A n c, .slice (some ⟨g, 0, none⟩) m ce, .int .i64 0, .int .i64 gw] 28 ∧ At W (w.heap.size + 1) [.slice none 0 0, .slice none 0 0, .int .i64 0, .int .i64 0] 28 ∧ At W (w.heap.size + 1 + 1) [.int .i64 0, .int .i64 0, .int .i64 0, .int .u32 0] 36 ∧ At W w3.heap.size [.int .i64 e, .int .i64 u, .int .i64 v, .int .u32 0] 36 ∧ Below w.heap.size w W ∧ Below w3.heap.size w3 W) ⟨HA.out.1.al, HA.out.2.1.al, HA.out.2.2.1.al, At.made rfl rfl, HA.out.2.2.2.alloc HA.out.2.2.2.size _, (Below.refl _ _).alloc (Nat.le_refl _) _⟩ ?_
  rintro wx ⟨hat1, hat2, hat3, hat4, hbx, hb3x⟩
  have q1 := (hat1.al (o := .cells #[] 36)).cell 1 rfl
  have hlt := HA.out.2.2.1.lt
  have HB := Lib.hid (And.intro hat1 (And.intro hat2 (And.intro hat3 (And.intro hat4 (And.intro hbx hlt)))))
  have HR4 := Lib.hid (And.intro (HR3.out.1.below hb3x) (HR3.out.2.below hb3x))
  clear hat1 hat2 hat3 hat4 hbx hb3x HR3 HA c1 c2 c3 c4 hlt
  go_upto_region 8 with ((at_builtin; first | (refine wpList_append_any rfl (.tmp 22) (.tmp 26) 26 rfl wx.heap.size 36 i4 (.agg #[.int .i64 0, .int .i64 0, .int .i64 0, .int .u32 0]) 4 32 Try.underlying26 hi4 hz4 hs4 hy4 rfl (by omega) _ 0 [] rfl (own_made rfl (Nat.le_refl _)) _ rfl i X1 (HR4.out.1.below ((Below.refl _ _).alloc (Nat.le_refl _) (.cells #[] 36))) (by unfold maxLen; omega) (by omega) (by simp) ?_; intro v3 w5 ho hg hn; rw [Nat.zero_add, List.nil_append] at ho; have hb4 : Below wx.heap.size wx w5 := ((Below.refl wx.heap.size wx).alloc (Nat.le_refl _) (.cells #[] 36)).grown hg (by simp) (fun k hk => by cases hk; exact Nat.le_refl _); have q1 := (HB.out.1.below hb4 HB.out.1.lt).cell 1 rfl; have HR5 := Lib.hid (HR4.out.2.below hb4); have HO := Lib.hid (And.intro ho hb4); clear ho hg hn hb4) | (refine wpList_append_any rfl (.tmp 28) (.tmp 33) 26 rfl wx.heap.size 36 i4 (.agg #[.int .i64 0, .int .i64 0, .int .i64 0, .int .u32 0]) 4 32 Try.underlying26 hi4 hz4 hs4 hy4 rfl (by omega) _ i X1 rfl HO.out.1 _ rfl (m - (i + 1)) X2 HR5.out (by unfold maxLen; omega) (by omega) HO.out.2.size ?_; intro v5 w6 ho hg hn; have hb5 := HO.out.2.grown hg HO.out.2.size (fun k hk => (HO.out.1.lt k hk).1); obtain ⟨A6, c6, rfl⟩ := Lw.own_slice ho; have h1 := HB.out.1.below hb5 HB.out.1.lt; clear q1; have p1 := h1.cell 1 rfl; have fx1 := h1.free 1; have fx3 := h1.free 3; have p3 := h1.cell 3 rfl; have HO2 := Lib.hid (And.intro ho (And.intro hb5 h1)); clear ho hg hn hb5 h1)))
  refine gen_world (fun W => At W w.heap.size [(.slice A n c), (.slice A6 (i + (m - (i + 1))) c6), (.int .i64 0), (.int .i64 (wrap64 (gw + 1)))] 28 ∧ At W (w.heap.size + 1) [.slice none 0 0, .slice none 0 0, .int .i64 0, .int .i64 0] 28 ∧ At W (w.heap.size + 1 + 1) [.int .i64 0, .int .i64 0, .int .i64 0, .int .u32 0] 36 ∧ At W w3.heap.size [(.int .i64 e), (.int .i64 u), (.int .i64 v), (.int .u32 0)] 36 ∧ Below w.heap.size w W ∧ W.ownsRow (w.heap.size + 1 + 1 + 1) 36 4 (.slice A6 (i + (m - (i + 1))) c6) (i + (m - (i + 1))) (X1 ++ X2)) ?_ ?_
  · obtain ⟨ho, hb5, h1⟩ := HO2.out
    obtain ⟨hat1, hat2, hat3, hat4, hbx, hlt⟩ := HB.out
    have hne : w.heap.size ≠ w.heap.size + 1 := by omega
    have hlx := hat3.lt
    have ho := own_mono (B' := w.heap.size + 1 + 1 + 1) ho (by omega)
    have g1 := fun (u : Value) => fun {W : World} {xs : List Value} (hW : W.ownsRow (w.heap.size + 1 + 1 + 1) 36 4 (.slice A6 (i + (m - (i + 1))) c6) (i + (m - (i + 1))) xs) (k : Nat) => ownsRow_setCell_other hW (a := ⟨w.heap.size, k, none⟩) (fun e => own_off ho h1 (by decide) e.symm) u
    exact ⟨(h1.put rfl).put rfl, ((hat2.below hb5 hat2.lt).off (by omega)).off (by omega), ((hat3.below hb5 hat3.lt).off (by omega)).off (by omega), ((hat4.below hb5 hat4.lt).off (by omega)).off (by omega), ((hbx.trans (hb5.mono hbx.size)).setCell (by simp) _).setCell (by simp) _, g1 _ (g1 _ ho 1) 3⟩
  have hlt := HB.out.2.2.2.2.2
  obtain ⟨gx, hgx⟩ : ∃ gx, w3.heap.size = gx := ⟨_, rfl⟩
  rw [hgx] at hlt ⊢
  rintro wy ⟨hat1, hat2, hat3, hat4, hb, ho⟩
  have HY := Lib.hid (And.intro hat1 (And.intro hat2 (And.intro hat3 (And.intro hat4 (And.intro hb.drew ho)))))
  clear hat1 hat2 hat3 hat4 hb ho HB HO2 HO p1 fx1 fx3 p3
  obtain ⟨wd, hwd⟩ : ∃ wd, wy.drew = wd := ⟨_, rfl⟩
  have HD := Lib.hid (show At wd w.heap.size [(.slice A n c), (.slice A6 (i + (m - (i + 1))) c6), (.int .i64 0), (.int .i64 (wrap64 (gw + 1)))] 28 ∧ At wd (w.heap.size + 1) [.slice none 0 0, .slice none 0 0, .int .i64 0, .int .i64 0] 28 ∧ At wd (w.heap.size + 1 + 1) [.int .i64 0, .int .i64 0, .int .i64 0, .int .u32 0] 36 ∧ At wd gx [(.int .i64 e), (.int .i64 u), (.int .i64 v), (.int .u32 0)] 36 ∧ Below w.heap.size w wd ∧ wd.ownsRow (w.heap.size + 1 + 1 + 1) 36 4 (.slice A6 (i + (m - (i + 1))) c6) (i + (m - (i + 1))) (X1 ++ X2) from hwd ▸ HY.out)
  obtain ⟨hat1, hat2, hat3, hat4, hb, ho⟩ := HD.out
  have q0 := hat1.cell 0 rfl
  have q4 := hat4.cell 0 rfl
  have f0 := hat2.free 0
  have r0 := hat2.cell 0 rfl
  have q1 := hat1.cell 1 rfl
  have q5 := hat4.cell 1 rfl
  have f1 := hat2.free 1
  have r1 := hat2.cell 1 rfl
  have q2 := hat1.cell 2 rfl
  have q6 := hat4.cell 2 rfl
  have f2 := hat2.free 2
  have r2 := hat2.cell 2 rfl
  have q3 := hat1.cell 3 rfl
  have q7 := hat4.cell 3 rfl
  have f3 := hat2.free 3
  have r3 := hat2.cell 3 rfl
  have hb1 : At ((((wd.setCell ⟨w.heap.size + 1, 0, none⟩ (.slice A n c)).setCell ⟨w.heap.size + 1, 1, none⟩ (.slice A6 (i + (m - (i + 1))) c6)).setCell ⟨w.heap.size + 1, 2, none⟩ (.int .i64 0)).setCell ⟨w.heap.size + 1, 3, none⟩ (.int .i64 (wrap64 (gw + 1)))) w.heap.size [(.slice A n c), (.slice A6 (i + (m - (i + 1))) c6), (.int .i64 0), (.int .i64 (wrap64 (gw + 1)))] 28 := (((hat1.off (by omega)).off (by omega)).off (by omega)).off (by omega)
  have hb4 : At ((((wd.setCell ⟨w.heap.size + 1, 0, none⟩ (.slice A n c)).setCell ⟨w.heap.size + 1, 1, none⟩ (.slice A6 (i + (m - (i + 1))) c6)).setCell ⟨w.heap.size + 1, 2, none⟩ (.int .i64 0)).setCell ⟨w.heap.size + 1, 3, none⟩ (.int .i64 (wrap64 (gw + 1)))) gx [(.int .i64 e), (.int .i64 u), (.int .i64 v), (.int .u32 0)] 36 := (((hat4.off (by omega)).off (by omega)).off (by omega)).off (by omega)
  have hb3 : At ((((wd.setCell ⟨w.heap.size + 1, 0, none⟩ (.slice A n c)).setCell ⟨w.heap.size + 1, 1, none⟩ (.slice A6 (i + (m - (i + 1))) c6)).setCell ⟨w.heap.size + 1, 2, none⟩ (.int .i64 0)).setCell ⟨w.heap.size + 1, 3, none⟩ (.int .i64 (wrap64 (gw + 1)))) (w.heap.size + 1 + 1) [.int .i64 0, .int .i64 0, .int .i64 0, .int .u32 0] 36 := (((hat3.off (by omega)).off (by omega)).off (by omega)).off (by omega)
  have hb2 : At ((((wd.setCell ⟨w.heap.size + 1, 0, none⟩ (.slice A n c)).setCell ⟨w.heap.size + 1, 1, none⟩ (.slice A6 (i + (m - (i + 1))) c6)).setCell ⟨w.heap.size + 1, 2, none⟩ (.int .i64 0)).setCell ⟨w.heap.size + 1, 3, none⟩ (.int .i64 (wrap64 (gw + 1)))) (w.heap.size + 1) [(.slice A n c), (.slice A6 (i + (m - (i + 1))) c6), (.int .i64 0), (.int .i64 (wrap64 (gw + 1)))] 28 := (((hat2.put rfl).put rfl).put rfl).put rfl
  have z0 := hb1.cell 0 rfl
  have z4 := hb4.cell 0 rfl
  have g0 := hb3.free 0
  have s0 := hb3.cell 0 rfl
  have z1 := hb1.cell 1 rfl
  have z5 := hb4.cell 1 rfl
  have g1 := hb3.free 1
  have s1 := hb3.cell 1 rfl
  have z2 := hb1.cell 2 rfl
  have z6 := hb4.cell 2 rfl
  have g2 := hb3.free 2
  have s2 := hb3.cell 2 rfl
  have z3 := hb1.cell 3 rfl
  have z7 := hb4.cell 3 rfl
  have g3 := hb3.free 3
  have s3 := hb3.cell 3 rfl
  have hc2 : At ((((((((wd.setCell ⟨w.heap.size + 1, 0, none⟩ (.slice A n c)).setCell ⟨w.heap.size + 1, 1, none⟩ (.slice A6 (i + (m - (i + 1))) c6)).setCell ⟨w.heap.size + 1, 2, none⟩ (.int .i64 0)).setCell ⟨w.heap.size + 1, 3, none⟩ (.int .i64 (wrap64 (gw + 1)))).setCell ⟨w.heap.size + 1 + 1, 0, none⟩ (.int .i64 e)).setCell ⟨w.heap.size + 1 + 1, 1, none⟩ (.int .i64 u)).setCell ⟨w.heap.size + 1 + 1, 2, none⟩ (.int .i64 v)).setCell ⟨w.heap.size + 1 + 1, 3, none⟩ (.int .u32 0)) (w.heap.size + 1) [(.slice A n c), (.slice A6 (i + (m - (i + 1))) c6), (.int .i64 0), (.int .i64 (wrap64 (gw + 1)))] 28 := (((hb2.off (by omega)).off (by omega)).off (by omega)).off (by omega)
  have hc3 : At ((((((((wd.setCell ⟨w.heap.size + 1, 0, none⟩ (.slice A n c)).setCell ⟨w.heap.size + 1, 1, none⟩ (.slice A6 (i + (m - (i + 1))) c6)).setCell ⟨w.heap.size + 1, 2, none⟩ (.int .i64 0)).setCell ⟨w.heap.size + 1, 3, none⟩ (.int .i64 (wrap64 (gw + 1)))).setCell ⟨w.heap.size + 1 + 1, 0, none⟩ (.int .i64 e)).setCell ⟨w.heap.size + 1 + 1, 1, none⟩ (.int .i64 u)).setCell ⟨w.heap.size + 1 + 1, 2, none⟩ (.int .i64 v)).setCell ⟨w.heap.size + 1 + 1, 3, none⟩ (.int .u32 0)) (w.heap.size + 1 + 1) [(.int .i64 e), (.int .i64 u), (.int .i64 v), (.int .u32 0)] 36 := (((hb3.put rfl).put rfl).put rfl).put rfl
  have t0 := hc2.cell 0 rfl
  have u0 := hc3.cell 0 rfl
  have t1 := hc2.cell 1 rfl
  have u1 := hc3.cell 1 rfl
  have t2 := hc2.cell 2 rfl
  have u2 := hc3.cell 2 rfl
  have t3 := hc2.cell 3 rfl
  have u3 := hc3.cell 3 rfl
  clear hat1 hat2 hat3 hat4 hb ho HY hb1 hb2 hb3 hb4 hc2 hc3
  refine start_ (n := 5) (S := fun w' => w'.cell? ⟨w.heap.size, 0, none⟩ = some (.slice A n c) ∧ w'.cell? ⟨w.heap.size, 1, none⟩ = some (.slice A6 (i + (m - (i + 1))) c6) ∧ w'.cell? ⟨w.heap.size, 2, none⟩ = some (.int .i64 0) ∧ w'.cell? ⟨w.heap.size, 3, none⟩ = some (.int .i64 (wrap64 (gw + 1))) ∧ w'.cell? ⟨gx, 0, none⟩ = some (.int .i64 e) ∧ w'.cell? ⟨gx, 1, none⟩ = some (.int .i64 u) ∧ w'.cell? ⟨gx, 2, none⟩ = some (.int .i64 v) ∧ w'.cell? ⟨gx, 3, none⟩ = some (.int .u32 0)) (ds := [3]) (bA 5 0) (by kernel_rfl) rfl rfl ⟨(by rw [hwd]; exact q0), (by rw [hwd]; exact q1), (by rw [hwd]; exact q2), (by rw [hwd]; exact q3), (by rw [hwd]; exact q4), (by rw [hwd]; exact q5), (by rw [hwd]; exact q6), (by rw [hwd]; exact q7)⟩ (fun hHeld => ?_)
  rw [hwd] at hHeld ⊢
  refine tk_ 0 40 (bA 5 1) hHeld (hv := by rintro w' ⟨s0, s1, s2, s3, s4, s5, s6, s7⟩; go_simp; with_reducible rfl) (h := ?_)
  refine tk_ 1 41 (bA 5 3) hHeld (hv := by rintro w' ⟨s0, s1, s2, s3, s4, s5, s6, s7⟩; go_simp; with_reducible rfl) (h := ?_)
  refine one_ (i := 2) (N := none) (bA 5 7) rfl rfl (by kernel_rfl) (by decide) (fun K hK => ?_)
  refine skip_ (w1 := ?_) (by rfl) rfl ?_ ?_
  rotate_left; · go_simp; rfl
  refine hK.out _ _ ⟨z0, z1, z2, z3, z4, z5, z6, z7⟩ (fun hHeld => ?_)
  clear hK K
  refine last_ (i := 3) (N := none) (bA 5 15) rfl rfl (by kernel_rfl) (by decide) (fun K hK => ?_)
  refine skip_ (w1 := ?_) (by rfl) rfl ?_ ?_
  rotate_left; · go_simp; rfl
  refine hK.out _ _ ?_; clear hK K
  refine pk_ 4 6 (bA 5 31) ?_
  refine done_ (by kernel_rfl) ?_
  clear hHeld
  go_wp2
  refine bodyPost_ret (v := .tuple #[.agg #[(.slice A n c), (.slice A6 (i + (m - (i + 1))) c6), (.int .i64 0), (.int .i64 (wrap64 (gw + 1)))], .agg #[(.int .i64 e), (.int .i64 u), (.int .i64 v), (.int .u32 0)], .int .i64 0]) ?_ rfl ⟨A6, c6, rfl, ?_, ?_⟩
  · simp only [results]; go_simp
  · obtain ⟨_, hat2, hat3, _, hb, ho⟩ := HD.out
    have g2 := fun (u : Value) (q : Nat) (hq : q < w.heap.size + 1 + 1 + 1) => fun {W : World} {xs : List Value} (hW : W.ownsRow (w.heap.size + 1 + 1 + 1) 36 4 (.slice A6 (i + (m - (i + 1))) c6) (i + (m - (i + 1))) xs) (k : Nat) => ownsRow_setCell_other hW (a := ⟨q, k, none⟩) (fun e => own_under ho hq e.symm) u
    refine own_mono ?_ (show w.heap.size ≤ w.heap.size + 1 + 1 + 1 by omega)
    exact g2 _ _ (by omega) (g2 _ _ (by omega) (g2 _ _ (by omega) (g2 _ _ (by omega) (g2 _ _ (by omega) (g2 _ _ (by omega) (g2 _ _ (by omega) (g2 _ _ (by omega) ho 0) 1) 2) 3) 0) 1) 2) 3
  · obtain ⟨_, _, _, _, hb, _⟩ := HD.out
    exact (((((((hb.setCell (by simp) _).setCell (by simp) _).setCell (by simp) _).setCell (by simp) _).setCell (by simp; omega) _).setCell (by simp; omega) _).setCell (by simp; omega) _).setCell (by simp; omega) _
end Go.Proofs.Ythomnpgpbhpojaa.Cd

/- The reference's DropArc. -/
namespace Go.Proofs.Ythomnpgpbhpojaa.Cd
open Go Go.RowKit Go.MapKept Go.Proofs.Ythomnpgpbhpojaa.Mem Go.Proofs.Ythomnpgpbhpojaa.Sl Go.Proofs.Ythomnpgpbhpojaa.Lw Go.Proofs.Ythomnpgpbhpojaa.Pt Go.Proofs.YthomnpgpbhpojaaW.PrintWords Go.Proofs.YthomnpgpbhpojaaW.PrintLast
attribute [local go_sem ↓] Go.wp_at_zero Go.wp_at_succ
set_option linter.unusedSimpArgs false
set_option linter.unusedVariables false


set_option maxHeartbeats 8000000 in
set_option maxRecDepth 100000 in
theorem dropA_no {gw : Int} (w : World) (A AE : Option Addr) (n c m ce : Nat) (es : List (Int × Int × Int)) (e : Int) (he : RdG w AE es) (hm : es.length = m) (hr : m ≤ 1000) (hin : ∀ p ∈ es, p.1 ≠ e) :
    Calls Try.prog 27 #[gV A n c (.slice AE m ce) gw, .int .i64 e] w fun en w' => en = .returned (.tuple #[gV A n c (.slice AE m ce) gw, .int .i64 6]) ∧ Below w.heap.size w w' := by
  have hac := fun (W : World) (hW : Below w.heap.size w W) => dropE_no (gw := gw) W A AE n c m ce es e (he.below hW) hm hr hin
  unfold gV at hac ⊢
  have HAC := Lib.hid hac
  clear he hm hin hac hr
  go_enter Try.func27, Try.ntmps27
  go_wp2_with fail
  have hb2 : Below w.heap.size w ((w.alloc (.cells #[(.slice A n c), (.slice AE m ce), (.int .i64 0), (.int .i64 gw)] 28)).alloc (.cells #[.slice none 0 0, .slice none 0 0, .int .i64 0, .int .i64 0] 28)) := ((Below.refl _ _).alloc (Nat.le_refl _) _).alloc (by simp) _
  have hs2 : ((w.alloc (.cells #[(.slice A n c), (.slice AE m ce), (.int .i64 0), (.int .i64 gw)] 28)).alloc (.cells #[.slice none 0 0, .slice none 0 0, .int .i64 0, .int .i64 0] 28)).heap.size = w.heap.size + 1 + 1 := by simp
  refine (HAC.out _ hb2).mono ?_
  rintro en w3 ⟨rfl, hb3⟩
  clear hs2
  have hat1 : At w3 w.heap.size [(.slice A n c), (.slice AE m ce), (.int .i64 0), (.int .i64 gw)] 28 := ((At.made (w := w) (a := #[(.slice A n c), (.slice AE m ce), (.int .i64 0), (.int .i64 gw)]) rfl rfl).al).below hb3 (by simp; omega)
  have hat2 : At w3 (w.heap.size + 1) [.slice none 0 0, .slice none 0 0, .int .i64 0, .int .i64 0] 28 := (At.made (by simp) rfl).below hb3 (by simp)
  have hb := hb2.trans (hb3.mono (by simp; omega))
  clear hb2 hb3 HAC
  have l1 := hat1.lt
  have l2 : w.heap.size ≠ w3.heap.size := by omega
  have l3 : w.heap.size + 1 < w3.heap.size := hat2.lt
  have l4 : w.heap.size + 1 ≠ w3.heap.size := by omega
  have f0 := (hat1.al (o := .cells #[.int .i64 0, .int .i64 0, .int .i64 0, .int .u32 0] 36)).free 0
  have r0 := (hat1.al (o := .cells #[.int .i64 0, .int .i64 0, .int .i64 0, .int .u32 0] 36)).cell 0 rfl
  have ff0 := hat1.free 0
  have rr0 := hat1.cell 0 rfl
  have f1 := (hat1.al (o := .cells #[.int .i64 0, .int .i64 0, .int .i64 0, .int .u32 0] 36)).free 1
  have r1 := (hat1.al (o := .cells #[.int .i64 0, .int .i64 0, .int .i64 0, .int .u32 0] 36)).cell 1 rfl
  have ff1 := hat1.free 1
  have rr1 := hat1.cell 1 rfl
  have f2 := (hat1.al (o := .cells #[.int .i64 0, .int .i64 0, .int .i64 0, .int .u32 0] 36)).free 2
  have r2 := (hat1.al (o := .cells #[.int .i64 0, .int .i64 0, .int .i64 0, .int .u32 0] 36)).cell 2 rfl
  have ff2 := hat1.free 2
  have rr2 := hat1.cell 2 rfl
  have f3 := (hat1.al (o := .cells #[.int .i64 0, .int .i64 0, .int .i64 0, .int .u32 0] 36)).free 3
  have r3 := (hat1.al (o := .cells #[.int .i64 0, .int .i64 0, .int .i64 0, .int .u32 0] 36)).cell 3 rfl
  have ff3 := hat1.free 3
  have rr3 := hat1.cell 3 rfl
  have HA := Lib.hid (And.intro hat1 (And.intro hat2 hb))
  clear hat1 hat2 hb
  go_upto_region 2 with (fail)
  refine gen_world (fun W => At W w.heap.size [(.slice A n c), (.slice AE m ce), (.int .i64 0), (.int .i64 gw)] 28 ∧ At W (w.heap.size + 1) [.slice none 0 0, .slice none 0 0, .int .i64 0, .int .i64 0] 28 ∧ Below w.heap.size w W) ⟨((((HA.out.1.put rfl).put rfl).put rfl).put rfl).al, ((((HA.out.2.1.off (by omega)).off (by omega)).off (by omega)).off (by omega)).al, ((((HA.out.2.2.setCell (by simp) _).setCell (by simp) _).setCell (by simp) _).setCell (by simp) _).alloc (by simp; exact HA.out.2.2.size) _⟩ ?_
  rintro wy ⟨hat1, hat2, hb⟩
  clear f0 f1 f2 f3 r0 r1 r2 r3 ff0 ff1 ff2 ff3 rr0 rr1 rr2 rr3 l1 l2 l3 l4
  have q0 := hat1.cell 0 rfl
  have q1 := hat1.cell 1 rfl
  have q2 := hat1.cell 2 rfl
  have q3 := hat1.cell 3 rfl
  have f0 := hat2.free 0
  have f1 := hat2.free 1
  have f2 := hat2.free 2
  have f3 := hat2.free 3
  have r0 := hat2.cell 0 rfl
  have r1 := hat2.cell 1 rfl
  have r2 := hat2.cell 2 rfl
  have r3 := hat2.cell 3 rfl
  have hat3 : At ((((wy.setCell ⟨w.heap.size + 1, 0, none⟩ (.slice A n c)).setCell ⟨w.heap.size + 1, 1, none⟩ (.slice AE m ce)).setCell ⟨w.heap.size + 1, 2, none⟩ (.int .i64 0)).setCell ⟨w.heap.size + 1, 3, none⟩ (.int .i64 gw)) (w.heap.size + 1) [(.slice A n c), (.slice AE m ce), (.int .i64 0), (.int .i64 gw)] 28 := (((hat2.put rfl).put rfl).put rfl).put rfl
  have t0 := hat3.cell 0 rfl
  have t1 := hat3.cell 1 rfl
  have t2 := hat3.cell 2 rfl
  have t3 := hat3.cell 3 rfl
  have HB := Lib.hid hb
  clear hat1 hat2 hat3 hb HA
  go_wp2
  refine bodyPost_ret (v := .tuple #[.agg #[(.slice A n c), (.slice AE m ce), (.int .i64 0), (.int .i64 gw)], .int .i64 6]) ?_ rfl ⟨rfl, ((((HB.out.setCell (by simp) _).setCell (by simp) _).setCell (by simp) _).setCell (by simp) _)⟩
  simp only [results]; go_simp
set_option maxHeartbeats 8000000 in
set_option maxRecDepth 100000 in
theorem dropA_yes {gw : Int} (w : World) (A AE : Option Addr) (n c m ce i : Nat) (es : List (Int × Int × Int)) (e u v : Int) (he : w.ownsRow 0 36 4 (.slice AE m ce) m (edg es)) (hm : es.length = m) (hr : m ≤ 1000) (hun : Uni es) (hin : es[i]? = some (e, u, v)) :
    Calls Try.prog 27 #[gV A n c (.slice AE m ce) gw, .int .i64 e] w fun en w' => ∃ A' c', en = .returned (.tuple #[gV A n c (.slice A' (m - 1) c') (wrap64 (gw + 1)), .int .i64 0]) ∧ w'.ownsRow w.heap.size 36 4 (.slice A' (m - 1) c') (m - 1) (edg (es.filter fun x => decide (x.1 ≠ e))) ∧ Below w.heap.size w w' := by
  have hac := fun (W : World) (hW : Below w.heap.size w W) => dropE_yes (gw := gw) W A AE n c m ce i es e u v (own_below he hW) hm hr hun hin
  obtain ⟨X, hX⟩ : ∃ X, edg (es.filter fun x => decide (x.1 ≠ e)) = X := ⟨_, rfl⟩
  rw [hX] at hac ⊢
  unfold gV at hac ⊢
  have HAC := Lib.hid hac
  clear he hm hin hac hr hX hun
  go_enter Try.func27, Try.ntmps27
  go_wp2_with fail
  have hb2 : Below w.heap.size w ((w.alloc (.cells #[(.slice A n c), (.slice AE m ce), (.int .i64 0), (.int .i64 gw)] 28)).alloc (.cells #[.slice none 0 0, .slice none 0 0, .int .i64 0, .int .i64 0] 28)) := ((Below.refl _ _).alloc (Nat.le_refl _) _).alloc (by simp) _
  have hs2 : ((w.alloc (.cells #[(.slice A n c), (.slice AE m ce), (.int .i64 0), (.int .i64 gw)] 28)).alloc (.cells #[.slice none 0 0, .slice none 0 0, .int .i64 0, .int .i64 0] 28)).heap.size = w.heap.size + 1 + 1 := by simp
  refine (HAC.out _ hb2).mono ?_
  rintro en w3 ⟨A6, c6, rfl, ho, hb3⟩
  rw [hs2] at ho
  have HO := Lib.hid ho
  clear hs2 ho
  have hat1 : At w3 w.heap.size [(.slice A n c), (.slice AE m ce), (.int .i64 0), (.int .i64 gw)] 28 := ((At.made (w := w) (a := #[(.slice A n c), (.slice AE m ce), (.int .i64 0), (.int .i64 gw)]) rfl rfl).al).below hb3 (by simp; omega)
  have hat2 : At w3 (w.heap.size + 1) [.slice none 0 0, .slice none 0 0, .int .i64 0, .int .i64 0] 28 := (At.made (by simp) rfl).below hb3 (by simp)
  have hb := hb2.trans (hb3.mono (by simp; omega))
  clear hb2 hb3 HAC
  have l1 := hat1.lt
  have l2 : w.heap.size ≠ w3.heap.size := by omega
  have l3 : w.heap.size + 1 < w3.heap.size := hat2.lt
  have l4 : w.heap.size + 1 ≠ w3.heap.size := by omega
  have f0 := (hat1.al (o := .cells #[.int .i64 0, .int .i64 0, .int .i64 0, .int .u32 0] 36)).free 0
  have r0 := (hat1.al (o := .cells #[.int .i64 0, .int .i64 0, .int .i64 0, .int .u32 0] 36)).cell 0 rfl
  have ff0 := hat1.free 0
  have rr0 := hat1.cell 0 rfl
  have f1 := (hat1.al (o := .cells #[.int .i64 0, .int .i64 0, .int .i64 0, .int .u32 0] 36)).free 1
  have r1 := (hat1.al (o := .cells #[.int .i64 0, .int .i64 0, .int .i64 0, .int .u32 0] 36)).cell 1 rfl
  have ff1 := hat1.free 1
  have rr1 := hat1.cell 1 rfl
  have f2 := (hat1.al (o := .cells #[.int .i64 0, .int .i64 0, .int .i64 0, .int .u32 0] 36)).free 2
  have r2 := (hat1.al (o := .cells #[.int .i64 0, .int .i64 0, .int .i64 0, .int .u32 0] 36)).cell 2 rfl
  have ff2 := hat1.free 2
  have rr2 := hat1.cell 2 rfl
  have f3 := (hat1.al (o := .cells #[.int .i64 0, .int .i64 0, .int .i64 0, .int .u32 0] 36)).free 3
  have r3 := (hat1.al (o := .cells #[.int .i64 0, .int .i64 0, .int .i64 0, .int .u32 0] 36)).cell 3 rfl
  have ff3 := hat1.free 3
  have rr3 := hat1.cell 3 rfl
  have HA := Lib.hid (And.intro hat1 (And.intro hat2 hb))
  clear hat1 hat2 hb
  go_upto_region 2 with (fail)
  refine gen_world (fun W => At W w.heap.size [(.slice A n c), (.slice A6 (m - 1) c6), (.int .i64 0), (.int .i64 (wrap64 (gw + 1)))] 28 ∧ At W (w.heap.size + 1) [.slice none 0 0, .slice none 0 0, .int .i64 0, .int .i64 0] 28 ∧ Below w.heap.size w W ∧ W.ownsRow (w.heap.size + 1 + 1) 36 4 (.slice A6 (m - 1) c6) (m - 1) X) ⟨((((HA.out.1.put rfl).put rfl).put rfl).put rfl).al, ((((HA.out.2.1.off (by omega)).off (by omega)).off (by omega)).off (by omega)).al, ((((HA.out.2.2.setCell (by simp) _).setCell (by simp) _).setCell (by simp) _).setCell (by simp) _).alloc (by simp; exact HA.out.2.2.size) _, ((((HO.out.setB (by omega)).setB (by omega)).setB (by omega)).setB (by omega)).alloc _⟩ ?_
  rintro wy ⟨hat1, hat2, hb, ho⟩
  clear f0 f1 f2 f3 r0 r1 r2 r3 ff0 ff1 ff2 ff3 rr0 rr1 rr2 rr3 l1 l2 l3 l4
  have q0 := hat1.cell 0 rfl
  have q1 := hat1.cell 1 rfl
  have q2 := hat1.cell 2 rfl
  have q3 := hat1.cell 3 rfl
  have f0 := hat2.free 0
  have f1 := hat2.free 1
  have f2 := hat2.free 2
  have f3 := hat2.free 3
  have r0 := hat2.cell 0 rfl
  have r1 := hat2.cell 1 rfl
  have r2 := hat2.cell 2 rfl
  have r3 := hat2.cell 3 rfl
  have hat3 : At ((((wy.setCell ⟨w.heap.size + 1, 0, none⟩ (.slice A n c)).setCell ⟨w.heap.size + 1, 1, none⟩ (.slice A6 (m - 1) c6)).setCell ⟨w.heap.size + 1, 2, none⟩ (.int .i64 0)).setCell ⟨w.heap.size + 1, 3, none⟩ (.int .i64 (wrap64 (gw + 1)))) (w.heap.size + 1) [(.slice A n c), (.slice A6 (m - 1) c6), (.int .i64 0), (.int .i64 (wrap64 (gw + 1)))] 28 := (((hat2.put rfl).put rfl).put rfl).put rfl
  have t0 := hat3.cell 0 rfl
  have t1 := hat3.cell 1 rfl
  have t2 := hat3.cell 2 rfl
  have t3 := hat3.cell 3 rfl
  have HB := Lib.hid (And.intro hb ho)
  clear hat1 hat2 hat3 hb ho HA HO
  go_wp2
  refine bodyPost_ret (v := .tuple #[.agg #[(.slice A n c), (.slice A6 (m - 1) c6), (.int .i64 0), (.int .i64 (wrap64 (gw + 1)))], .int .i64 0]) ?_ rfl ⟨A6, c6, rfl, own_mono ((((HB.out.2.setB (by omega)).setB (by omega)).setB (by omega)).setB (by omega)) (by omega), ((((HB.out.1.setCell (by simp) _).setCell (by simp) _).setCell (by simp) _).setCell (by simp) _)⟩
  simp only [results]; go_simp
end Go.Proofs.Ythomnpgpbhpojaa.Cd
