/- Lists of lists with what bounds them, edges, distances and trees as arguments. -/
import Derived.Test.YtgihncjllelonaaHo30
import Derived.Test.YtgihncjllelonaaHo33
namespace Go.Proofs.Ytgihncjllelonaa.Ce
open Go Go.RowKit Go.ChangeShapes Go.WideShapes Go.ChangeAt Go.Deep Go.Proofs.Ytgihncjllelonaa.Mem Go.Proofs.Ytgihncjllelonaa.Lw Go.Proofs.Ytgihncjllelonaa.Tb
set_option linter.unusedSimpArgs false
set_option linter.unusedVariables false

theorem bulk_pos {H : Type} (x : DataW H) : 1 ≤ Rows.uptoBulk x := by
  cases x with
  | lit l => cases l <;> simp [Rows.uptoBulk]
  | _ => simp [Rows.uptoBulk]
theorem bulk_len {H : Type} : ∀ l : List (DataW H), l.length ≤ Rows.uptoBulkAll l
  | [] => Nat.zero_le _
  | d :: r => by
    have := bulk_len r
    have := bulk_pos d
    rw [Rows.uptoBulkAll, List.length_cons]
    omega
section
variable {H : Type} {enc : TypeId × Value → H} {W : World} {base : Nat} {v : Value} {d : DataW H} {p : List MemPlace}
set_option maxRecDepth 100000 in
theorem lists_in2 (hv : Value.okWide Try.prog W .any base 24 v) (h : DataW.Trod enc Try.prog W 0 (fun _ => true) true 24 v d p) (hk : Rows.uptoBulk d ≤ 1048576) : ∃ (l : List (List Int)) (A : Option Addr) (c : Nat), v = .slice A l.length c ∧ RdLV W A l ∧ l.length ≤ 1048576 := by
  obtain ⟨a0, len, cap, rfl⟩ := okWide_slice Try.underlying24 hv
  obtain ⟨fuel, hf⟩ := h
  rcases open_slice1 Try.underlying24 cells_ints hf with ⟨hcs, hx⟩ | ⟨a, len', cap', m, n, V, D, Pl, hcs, _, hl, hm, hmm, hx, hcell⟩
  · simp [Value.cells] at hcs
    obtain ⟨rfl, rfl, rfl⟩ := hcs
    exact ⟨[], none, 0, rfl, fun i r hr => by simp at hr, by decide⟩
  · simp [Value.cells] at hcs
    obtain ⟨rfl, rfl, rfl⟩ := hcs
    simp only [if_true] at hmm
    have row : ∀ i, i < len → ∃ r : List Int, ∃ B c, V i = .slice B r.length c ∧ RdO W B r ∧ (B = none → c = 0) ∧ r.length ≤ Rows.uptoBulk (D i) := by
      intro i hi
      obtain ⟨_, h2⟩ := hcell i (by omega)
      rcases open_ints Try.underlying22 Try.underlying3 cells_int h2 with ⟨hcs, hx2⟩ | ⟨b, len2, cap2, zs, hcs, _, hl2, hm2, hz, hx2, hc, _⟩
      · have := List.cons.inj hcs |>.1
        exact ⟨[], none, 0, this, fun j x hx => by simp at hx, fun _ => rfl, Nat.zero_le _⟩
      · have := List.cons.inj hcs |>.1
        simp only [if_true] at hz
        have hlen : (zs.take len2).length = len2 := by rw [List.length_take]; omega
        refine ⟨zs.take len2, some b, cap2, by rw [hlen]; exact this, fun j x hx => ?_, (fun h => by cases h), ?_⟩
        · have hj : j < len2 := by
            have := (List.getElem?_eq_some_iff.1 hx).1
            omega
          have h0 := hc 0 (by omega)
          have hb : b = ⟨b.block, b.off, none⟩ := plain_of (by rw [show b.add 0 = b from if_pos rfl] at h0; exact h0)
          refine ⟨b.block, b.off, by rw [← hb], ?_⟩
          rw [← add_plain, ← hb, hc j (by omega)]
          rw [List.getElem?_take, if_pos hj] at hx
          rw [List.getD_eq_getElem?_getD, hx]
          rfl
        · have e := (Prod.mk.inj hx2).1
          rw [e, Rows.uptoBulk, bulk_lits, hlen]
          omega
    obtain ⟨q, hq⟩ := choose_lt row
    have hlenb : len ≤ 1048576 := by
      have e := (Prod.mk.inj hx).1
      rw [e, Rows.uptoBulk] at hk
      have := bulk_len ((List.range len).map D)
      rw [List.length_map, List.length_range] at this
      omega
    refine ⟨(List.range len).map q, some a, cap, by simp, fun j r hr => ?_, by simpa using hlenb⟩
    rw [List.getElem?_map] at hr
    have hj : j < len := by
      rcases Nat.lt_or_ge j len with h | h
      · exact h
      · rw [List.getElem?_eq_none (by simpa using h)] at hr
        cases hr
    rw [List.getElem?_range hj] at hr
    have hqe : q j = r := by simpa using hr
    obtain ⟨B, c, e1, e2, e4, e3⟩ := hq j hj
    rw [hqe] at e1 e2 e3
    have h0 := (hcell 0 (by omega)).1
    have ha : a = ⟨a.block, a.off, none⟩ := plain_of (by rw [show a.add 0 = a from if_pos rfl] at h0; exact h0)
    refine ⟨a.block, a.off, B, c, by rw [← ha], ?_, e2, e4, ?_⟩
    · rw [← add_plain, ← ha, (hcell j (by omega)).1, e1]
    · have e := (Prod.mk.inj hx).1
      rw [e, Rows.uptoBulk] at hk
      have := bulk_mem (x := D j) (l := (List.range len).map D) (List.mem_map.2 ⟨j, List.mem_range.2 hj, rfl⟩)
      omega
theorem cells_edge : Try.prog.cellsOf 55 = 4 := by kernel_rfl
theorem cells_u32 : Try.prog.cellsOf 41 = 1 := by kernel_rfl
theorem edge_fields : ∃ f0 f1 f2 f3 : Field, Try.prog.underlying 55 = some (.struct #[f0, f1, f2, f3]) ∧ (f0.offset = 0 ∧ f1.offset = 1 ∧ f2.offset = 2 ∧ f3.offset = 3) ∧ f0.type = 3 ∧ f1.type = 3 ∧ f2.type = 3 ∧ f3.type = 41 :=
  ⟨_, _, _, _, Try.underlying55, ⟨rfl, rfl, rfl, rfl⟩, rfl, rfl, rfl, rfl⟩
theorem u32_nat {x : Int} (h : (Lit.int .u32 x).wf = true) : ∃ n : Nat, x = (n : Int) ∧ n < 4294967296 := by
  have h1 : IntKind.u32.min ≤ x ∧ x ≤ IntKind.u32.max := by simpa [Lit.wf] using h
  have h2 : (0 : Int) ≤ x ∧ x ≤ 4294967295 := h1
  exact ⟨x.toNat, by omega, by omega⟩
theorem edsC_one (l : List Ed) : ∀ u ∈ edsC l, u.oneCell' = true := by
  induction l with
  | nil => simp [edsC]
  | cons p l ih =>
    intro u hu
    rw [edsC_cons] at hu
    simp at hu
    rcases hu with rfl | rfl | rfl | rfl | hu
    · rfl
    · rfl
    · rfl
    · rfl
    · exact ih u hu
set_option maxRecDepth 100000 in
theorem edges_in (hv : Value.okWide Try.prog W .any base 31 v) (h : DataW.Trod enc Try.prog W 0 (fun _ => true) true 31 v d p) : ∃ l : List Ed, ArgV W v l.length 4 (edsC l) ∧ ∀ p ∈ l, p.2.2.2 < 4294967296 := by
  obtain ⟨a0, len, cap, rfl⟩ := okWide_slice Try.underlying31 hv
  obtain ⟨fuel, hf⟩ := h
  obtain ⟨f0, f1, f2, f3, hu, ⟨o0, o1, o2, o3⟩, t0, t1, t2, t3⟩ := edge_fields
  rcases open_slice Try.underlying31 hf with ⟨hcs, hx⟩ | ⟨a, len', cap', m, n, D, Pl, hcs, _, hl, hm, hmm, hx, hcell⟩
  · simp [Value.cells] at hcs
    obtain ⟨rfl, rfl, rfl⟩ := hcs
    exact ⟨[], ⟨rfl, by simp [edsC], .inl ⟨rfl, rfl⟩⟩, fun p hp => by cases hp⟩
  · simp [Value.cells] at hcs
    obtain ⟨rfl, rfl, rfl⟩ := hcs
    simp only [if_true] at hmm
    have num : ∀ i, i < m → ∃ q : Ed, q.2.2.2 < 4294967296 ∧ W.cell? (a.add (i * 4)) = some (.int .i64 q.1) ∧ W.cell? (a.add (i * 4 + 1)) = some (.int .i64 q.2.1) ∧ W.cell? (a.add (i * 4 + 2)) = some (.int .i64 q.2.2.1) ∧ W.cell? (a.add (i * 4 + 3)) = some (.int .u32 (q.2.2.2 : Int)) := by
      intro i hi
      obtain ⟨cs', h1, h2⟩ := hcell i hi
      rw [cells_edge] at h1
      obtain ⟨_, hlen, hc⟩ := World.cells?_some h1
      obtain ⟨xs, k, hk, hxy, _, hxl, hf⟩ := DataW.trod_struct hu h2
      match xs, hxl, cs', hlen with
      | [y0, y1, y2, y3], _, [v0, v1, v2, v3], _ =>
        have g0 := hf 0 f0 rfl
        have g1 := hf 1 f1 rfl
        have g2 := hf 2 f2 rfl
        have g3 := hf 3 f3 rfl
        simp [o0, o1, o2, o3, t0, t1, t2, t3, cells_int, cells_u32] at g0 g1 g2 g3
        have e0 := hc 0 (by omega)
        have e1 := hc 1 (by omega)
        have e2 := hc 2 (by omega)
        have e3 := hc 3 (by omega)
        rw [Go.Deep.add_add] at e0 e1 e2 e3
        obtain ⟨x0, hx0, _⟩ := DataW.trod_int Try.underlying3 g0
        obtain ⟨x1, hx1, _⟩ := DataW.trod_int Try.underlying3 g1
        obtain ⟨x2, hx2, _⟩ := DataW.trod_int Try.underlying3 g2
        obtain ⟨x3, hx3, _, hw3⟩ := DataW.trod_int Try.underlying41 g3
        cases hx0
        cases hx1
        cases hx2
        cases hx3
        obtain ⟨b, rfl, hb⟩ := u32_nat hw3
        exact ⟨(x0, x1, x2, b), hb, by simpa using e0, by simpa using e1, by simpa using e2, by simpa using e3⟩
    obtain ⟨q, hq⟩ := choose_lt num
    have hlen : ((List.range len).map q).length = len := by simp
    refine ⟨(List.range len).map q, ⟨edsC_length _, edsC_one _, .inr ⟨a, cap, by rw [hlen], by rw [hlen]; exact hl, fun j u hu => ?_⟩⟩, fun p hp => ?_⟩
    · have hj : j < len * 4 := by
        have := (List.getElem?_eq_some_iff.1 hu).1
        rw [edsC_length, hlen] at this
        exact this
      have hget : ((List.range len).map q)[j / 4]? = some ((q (j / 4)).1, (q (j / 4)).2.1, (q (j / 4)).2.2.1, (q (j / 4)).2.2.2) := by
        rw [List.getElem?_map, List.getElem?_range (by omega)]
        rfl
      obtain ⟨s0, s1, s2, s3⟩ := edsC_at _ _ _ _ _ _ hget
      obtain ⟨_, h0, h1, h2, h3⟩ := hq (j / 4) (by omega)
      have h4 : j % 4 = 0 ∨ j % 4 = 1 ∨ j % 4 = 2 ∨ j % 4 = 3 := by omega
      rcases h4 with h | h | h | h
      · rw [show j / 4 * 4 = j by omega] at s0 h0
        rw [h0, ← hu, s0]
      · rw [show j / 4 * 4 + 1 = j by omega] at s1 h1
        rw [h1, ← hu, s1]
      · rw [show j / 4 * 4 + 2 = j by omega] at s2 h2
        rw [h2, ← hu, s2]
      · rw [show j / 4 * 4 + 3 = j by omega] at s3 h3
        rw [h3, ← hu, s3]
    · obtain ⟨i, hi, rfl⟩ := List.mem_map.1 hp
      exact (hq i (by have := List.mem_range.1 hi; omega)).1
end
end Go.Proofs.Ytgihncjllelonaa.Ce
