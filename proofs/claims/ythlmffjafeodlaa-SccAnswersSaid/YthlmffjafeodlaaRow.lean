/- The arguments of the laws read as lists. -/
import Derived.Test.YthlmffjafeodlaaLw5
import Derived.Test.YthlmffjafeodlaaRows
import Derived.ProofKit
import Derived.OpenShut
import Derived.Carry
import Derived.Deep.SlicePairs
namespace Go.Proofs.Ythlmffjafeodlaa.Lw
open Go Go.RowKit Go.ChangeShapes Go.WideShapes Go.ChangeAt Go.Deep Go.Proofs.Ythlmffjafeodlaa.Mem
set_option linter.unusedSimpArgs false
set_option linter.unusedVariables false

theorem own : ownKnob Try.prog.godebug = none := by kernel_rfl
theorem laidOut : laidOutB Try.prog = true := by kernel_rfl
theorem cells_int : Try.prog.cellsOf 3 = 1 := by kernel_rfl
theorem cells_arc : Try.prog.cellsOf 34 = 2 := by kernel_rfl
theorem arc_fields : ∃ f0 f1 : Field, Try.prog.underlying 34 = some (.struct #[f0, f1]) ∧ f0.offset = 0 ∧ f1.offset = 1 ∧ f0.type = 3 ∧ f1.type = 3 :=
  ⟨_, _, Try.underlying34, rfl, rfl, rfl, rfl⟩

section
variable {H : Type} {enc : TypeId × Value → H} {W : World} {base : Nat} {v : Value} {d : DataW H} {p : List MemPlace}

set_option maxRecDepth 100000 in
theorem ints_in (hv : Value.okWide Try.prog W .any base 22 v) (h : DataW.Trod enc Try.prog W 0 (fun _ => true) true 22 v d p) : ∃ l : List Int, ArgV W v l.length 1 (ints l) := by
  obtain ⟨a0, len, cap, rfl⟩ := okWide_slice Try.underlying22 hv
  obtain ⟨fuel, hf⟩ := h
  rcases open_ints Try.underlying22 Try.underlying3 cells_int hf with ⟨hcs, hx⟩ | ⟨a, len', cap', zs, hcs, _, hl, hm, hz, hx, hcell, hwz⟩
  · simp [Value.cells] at hcs
    obtain ⟨rfl, rfl, rfl⟩ := hcs
    exact ⟨[], rfl, by simp [ints], .inl ⟨rfl, rfl⟩⟩
  · simp [Value.cells] at hcs
    obtain ⟨rfl, rfl, rfl⟩ := hcs
    simp only [if_true] at hz
    have hlen : (zs.take len).length = len := by rw [List.length_take]; omega
    refine ⟨zs.take len, by rw [ints_length, Nat.mul_one], ints_one _, .inr ⟨a, cap, by rw [hlen], by rw [hlen]; exact hl, fun j u hu => ?_⟩⟩
    have hj : j < len := by
      have := (List.getElem?_eq_some_iff.1 hu).1
      rw [ints_length, hlen] at this
      exact this
    rw [hcell j (by omega), ← hu]
    have he : (zs.take len)[j]? = some (zs.getD j 0) := by
      rw [List.getElem?_take, if_pos hj, List.getD_eq_getElem?_getD, List.getElem?_eq_getElem (by omega)]
      rfl
    exact (Mem.ints_at _ he).symm

set_option maxRecDepth 100000 in
theorem arcs_in (hv : Value.okWide Try.prog W .any base 23 v) (h : DataW.Trod enc Try.prog W 0 (fun _ => true) true 23 v d p) : ∃ l : List (Int × Int), ArgV W v l.length 2 (arcs2 l) := by
  obtain ⟨a0, len, cap, rfl⟩ := okWide_slice Try.underlying23 hv
  obtain ⟨fuel, hf⟩ := h
  obtain ⟨f0, f1, hu, o0, o1, t0, t1⟩ := arc_fields
  rcases open_slice_pairs Try.underlying23 hu cells_arc o0 o1 (by rw [t0]; exact cells_int) (by rw [t1]; exact cells_int) hf with ⟨hcs, hx⟩ | ⟨a, len', cap', m, n, V0, V1, D0, D1, P0, P1, hcs, _, hl, hm, hmm, hx, hcell⟩
  · simp [Value.cells] at hcs
    obtain ⟨rfl, rfl, rfl⟩ := hcs
    exact ⟨[], rfl, by simp [arcs2], .inl ⟨rfl, rfl⟩⟩
  · simp [Value.cells] at hcs
    obtain ⟨rfl, rfl, rfl⟩ := hcs
    simp only [if_true] at hmm
    have num : ∀ i, i < m → ∃ q : Int × Int, W.cell? (a.add (i * 2)) = some (.int .i64 q.1) ∧ W.cell? (a.add (i * 2 + 1)) = some (.int .i64 q.2) := by
      intro i hi
      obtain ⟨h0, h1, h2, h3⟩ := hcell i hi
      rw [t0] at h2
      rw [t1] at h3
      obtain ⟨x, hx0, _⟩ := DataW.trod_int Try.underlying3 h2
      obtain ⟨y, hy0, _⟩ := DataW.trod_int Try.underlying3 h3
      rw [List.cons.inj hx0 |>.1] at h0
      rw [List.cons.inj hy0 |>.1] at h1
      exact ⟨(x, y), h0, h1⟩
    obtain ⟨q, hq⟩ := choose_lt num
    have hlen : ((List.range len).map q).length = len := by simp
    refine ⟨(List.range len).map q, arcs2_length _, arcs2_one _, .inr ⟨a, cap, by rw [hlen], by rw [hlen]; exact hl, fun j u hu => ?_⟩⟩
    have hj : j < len * 2 := by
      have := (List.getElem?_eq_some_iff.1 hu).1
      rw [arcs2_length, hlen] at this
      exact this
    have hget : ((List.range len).map q)[j / 2]? = some ((q (j / 2)).1, (q (j / 2)).2) := by
      rw [List.getElem?_map, List.getElem?_range (by omega)]
      rfl
    have h2 := arcs2_at _ _ _ _ hget
    have h3 := hq (j / 2) (by omega)
    rcases Nat.mod_two_eq_zero_or_one j with h | h
    · have e : j / 2 * 2 = j := by omega
      rw [e] at h2 h3
      rw [h3.1, ← hu, h2.1]
    · have e : j / 2 * 2 + 1 = j := by omega
      rw [e] at h2 h3
      rw [h3.2, ← hu, h2.2]
end

end Go.Proofs.Ythlmffjafeodlaa.Lw
