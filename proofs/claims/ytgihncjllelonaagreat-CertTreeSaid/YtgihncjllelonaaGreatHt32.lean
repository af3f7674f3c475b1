/- Plain: the sum of two costs as a whole number that is rounded. -/
import Derived.Test.YtgihncjllelonaaGreatHt13
import Derived.Test.YtgihncjllelonaaGreatHt14
import Derived.Test.YtgihncjllelonaaGreatHt22
import Derived.Test.YtgihncjllelonaaGreatHt30
import Derived.Test.YtgihncjllelonaaGreatHt31
import Derived.Test.YtgihncjllelonaaGreatHt29
namespace Go.Proofs.YtgihncjllelonaaGreat.Wt
set_option linter.unusedSimpArgs false
set_option linter.unusedVariables false

def rne (N t : Nat) : Nat := N / 2 ^ t + (decide (2 ^ t < 2 * (N % 2 ^ t)) || (2 ^ t == 2 * (N % 2 ^ t) && N / 2 ^ t % 2 == 1)).toNat
def R (N : Nat) : Nat := if N = 0 then 0 else min ((N.log2 - 23) * 8388608 + rne N (N.log2 - 23)) 2139095040
theorem log2_pow {m : Nat} (k : Nat) (h : m ≠ 0) : (m * 2 ^ k).log2 = m.log2 + k := by
  have hp := Nat.two_pow_pos k
  have h1 := Nat.log2_self_le h
  have h2 := @Nat.lt_log2_self m
  rw [Nat.log2_eq_iff (by have := Nat.mul_pos (Nat.pos_of_ne_zero h) hp; omega)]
  refine ⟨?_, ?_⟩
  · rw [Nat.pow_add]
    exact Nat.mul_le_mul_right _ h1
  · rw [show m.log2 + k + 1 = (m.log2 + 1) + k by omega, Nat.pow_add]
    exact Nat.mul_lt_mul_of_pos_right h2 hp
theorem cut_even (n d : Nat) (hd : d ≤ n.log2 + 2) : Ieee.Toward.even.cut false n d = rne n d := by
  unfold Ieee.Toward.cut rne
  rw [Nat.min_eq_left hd, Nat.shiftLeft_eq, Nat.one_mul]
theorem rne_scale (m k d : Nat) : rne (m * 2 ^ k) (k + d) = rne m d := by
  have hp := Nat.two_pow_pos k
  have e1 : 2 ^ (k + d) = 2 ^ d * 2 ^ k := by rw [Nat.add_comm, Nat.pow_add]
  unfold rne
  rw [e1, Nat.mul_div_mul_right _ _ hp, Nat.mul_mod_mul_right, ← Nat.mul_assoc]
  generalize m % 2 ^ d = r
  generalize 2 ^ k = K at *
  generalize 2 ^ d = D
  have c1 : decide (D * K < 2 * r * K) = decide (D < 2 * r) := by
    simp only [decide_eq_decide]
    exact Nat.mul_lt_mul_right hp
  have c2 : (D * K == 2 * r * K) = (D == 2 * r) := by
    rw [Bool.eq_iff_iff]
    simp only [beq_iff_eq]
    exact ⟨fun h => Nat.eq_of_mul_eq_mul_right hp h, fun h => by rw [h]⟩
  rw [c1, c2]
theorem rne_zero (n : Nat) : rne n 0 = n := by
  unfold rne
  simp [Nat.mod_one]
theorem rne_exact (m t j : Nat) : rne (m * 2 ^ (t + j)) t = m * 2 ^ j := by
  have := rne_scale (m * 2 ^ j) t 0
  rw [Nat.add_zero, rne_zero] at this
  rw [Nat.pow_add, Nat.mul_comm (2 ^ t), ← Nat.mul_assoc]
  exact this
theorem kept_val (mag k : Nat) (h0 : mag ≠ 0) (lp : Int) : Ieee.Toward.even.cut false (mag <<< (lp + (k : Int) - max (lp + (k : Int) + (mag.log2 : Int) - 23) lp).toNat) (max (lp + (k : Int) + (mag.log2 : Int) - 23) lp - (lp + (k : Int))).toNat = rne (mag * 2 ^ k) (mag.log2 + k - 23) := by
  obtain ⟨t, ht⟩ : ∃ t, mag.log2 + k - 23 = t := ⟨_, rfl⟩
  rw [ht]
  by_cases hkt : t ≤ k
  · have e2 : (lp + (k : Int) - max (lp + (k : Int) + (mag.log2 : Int) - 23) lp).toNat = k - t := by omega
    have e3 : (max (lp + (k : Int) + (mag.log2 : Int) - 23) lp - (lp + (k : Int))).toNat = 0 := by omega
    rw [e2, e3, cut_even _ 0 (Nat.zero_le _), rne_zero, Nat.shiftLeft_eq]
    have := rne_exact mag t (k - t)
    rw [show t + (k - t) = k by omega] at this
    exact this.symm
  · have e2 : (lp + (k : Int) - max (lp + (k : Int) + (mag.log2 : Int) - 23) lp).toNat = 0 := by omega
    have e3 : (max (lp + (k : Int) + (mag.log2 : Int) - 23) lp - (lp + (k : Int))).toNat = t - k := by omega
    rw [e2, e3, Nat.shiftLeft_eq, Nat.pow_zero, Nat.mul_one, cut_even _ _ (by omega)]
    have := rne_scale mag k (t - k)
    rw [show k + (t - k) = t by omega] at this
    exact this.symm
theorem word_false (r : Nat) : Ieee.single.word false r = r := by
  unfold Ieee.Format.word
  rw [if_neg (by decide)]
theorem nearest_val (mag k : Nat) : Ieee.single.nearest false mag (Ieee.single.leastPlace + (k : Int)) = R (mag * 2 ^ k) := by
  by_cases h0 : mag = 0
  · subst h0
    unfold Ieee.Format.nearest R
    rw [if_pos rfl, if_pos (Nat.zero_mul _), word_false]
  · have hp := Nat.two_pow_pos k
    have hn : mag * 2 ^ k ≠ 0 := Nat.ne_of_gt (Nat.mul_pos (Nat.pos_of_ne_zero h0) hp)
    have hk := kept_val mag k h0 Ieee.single.leastPlace
    have e1 : (max (Ieee.single.leastPlace + (k : Int) + (mag.log2 : Int) - 23) Ieee.single.leastPlace - Ieee.single.leastPlace).toNat = mag.log2 + k - 23 := by
      generalize Ieee.single.leastPlace = lp
      omega
    have hfb : ((Ieee.single.fractionBits : Nat) : Int) = 23 := rfl
    unfold Ieee.Format.nearest R
    rw [if_neg h0, if_neg hn, log2_pow k h0]
    dsimp only
    rw [hfb, hk, e1, inf_eq, bin_eq, word_false]
theorem add_val {a b : Nat} (ha : a < 2139095040) (hb : b < 2139095040) : Ieee.single.add a b = some (R (V a + V b)) := by
  obtain ⟨m, e, h1, v1⟩ := read_fin ha
  obtain ⟨n, f, h2, v2⟩ := read_fin hb
  unfold Ieee.Format.add
  rw [h1, h2]
  show some (Ieee.Format.write Ieee.single (.number (if _ then _ else _) _ _)) = _
  simp only [signed_false]
  have hneg : ∀ (x y : Nat), (if ((x : Int) + (y : Int)) = 0 then (false && false) else decide ((x : Int) + (y : Int) < 0)) = false := by
    intro x y
    split
    · rfl
    · simp; omega
  rw [hneg]
  have hbase : min (Ieee.single.leastPlace + (e : Int)) (Ieee.single.leastPlace + (f : Int)) = Ieee.single.leastPlace + ((min e f : Nat) : Int) := by
    generalize Ieee.single.leastPlace = lp
    omega
  have he : (Ieee.single.leastPlace + (e : Int) - min (Ieee.single.leastPlace + (e : Int)) (Ieee.single.leastPlace + (f : Int))).toNat = e - min e f := by
    generalize Ieee.single.leastPlace = lp
    omega
  have hf : (Ieee.single.leastPlace + (f : Int) - min (Ieee.single.leastPlace + (e : Int)) (Ieee.single.leastPlace + (f : Int))).toNat = f - min e f := by
    generalize Ieee.single.leastPlace = lp
    omega
  rw [he, hf, hbase]
  have habs : ((((m * 2 ^ (e - min e f) : Nat) : Int)) + ((n * 2 ^ (f - min e f) : Nat) : Int)).natAbs = m * 2 ^ (e - min e f) + n * 2 ^ (f - min e f) := by
    rw [← Int.natCast_add, Int.natAbs_natCast]
  rw [habs]
  show some (Ieee.single.nearest false _ _) = _
  rw [nearest_val, Nat.add_mul, Nat.mul_assoc, Nat.mul_assoc, ← Nat.pow_add, ← Nat.pow_add, show e - min e f + min e f = e by omega, show f - min e f + min e f = f by omega, v1, v2]
theorem rne_ge (N t : Nat) : N / 2 ^ t ≤ rne N t := by
  unfold rne
  exact Nat.le_add_right _ _
theorem add32_fin {a b : Nat} (ha : a < 2139095040) (hb : b < 2139095040) : add32 a b = R (V a + V b) := by
  unfold add32
  rw [cnt_cost (by omega), cnt_cost (by omega), add_val ha hb]
  rfl
theorem add32_inf {a b : Nat} (ha : a ≤ 2139095040) (hb : b ≤ 2139095040) (h : a = 2139095040 ∨ b = 2139095040) : add32 a b = 2139095040 := by
  unfold add32
  rw [cnt_cost ha, cnt_cost hb]
  unfold Ieee.Format.add
  rcases h with rfl | rfl
  · rw [read_inf]
    by_cases hb' : b = 2139095040
    · subst hb'; rfl
    · obtain ⟨m, e, h1, _⟩ := read_fin (show b < 2139095040 by omega)
      rw [h1]
      rfl
  · rw [read_inf]
    by_cases ha' : a = 2139095040
    · subst ha'; rfl
    · obtain ⟨m, e, h1, _⟩ := read_fin (show a < 2139095040 by omega)
      rw [h1]
      rfl
end Go.Proofs.YtgihncjllelonaaGreat.Wt

/- A built tree's distances are accepted by cert; turned ones are refused: plain. -/
namespace Go.Proofs.YtgihncjllelonaaGreat.Ce
open Go Go.Proofs.YtgihncjllelonaaGreat.Tb Go.Proofs.YtgihncjllelonaaGreat.Wt Go.Proofs.YtgihncjllelonaaGreat.Sl
set_option linter.unusedSimpArgs false
set_option linter.unusedVariables false

def dsAt (Rt : Int → Option (Nat × Int)) (v : Int) : Ds := match Rt v with
  | none => (v, true, 0, 0)
  | some r => (v, false, r.1, r.2)
def dsOf (sv : List Int) (Rt : Int → Option (Nat × Int)) : List Ds := sv.map (dsAt Rt)
theorem dsAt_key (Rt : Int → Option (Nat × Int)) (v : Int) : (dsAt Rt v).1 = v := by unfold dsAt; cases Rt v <;> rfl
theorem dsM_of {l : List Ds} (hn : (l.map (·.1)).Nodup) {x : Ds} (hx : x ∈ l) : dsM l x.1 = some x := by
  unfold dsM
  cases hf : l.reverse.find? fun p => decide (p.1 = x.1) with
  | none =>
    have := List.find?_eq_none.1 hf x (List.mem_reverse.2 hx)
    simp at this
  | some q =>
    have h1 := List.mem_reverse.1 (List.mem_of_find?_eq_some hf)
    have h2 : q.1 = x.1 := by simpa using List.find?_some hf
    obtain ⟨j, hj, rfl⟩ := List.getElem_of_mem h1
    obtain ⟨i, hi, rfl⟩ := List.getElem_of_mem hx
    have hij : j = i := by
      have hd := List.pairwise_iff_getElem.1 hn
      rcases Nat.lt_trichotomy i j with hlt | e | hlt
      · have := hd i j (by simpa using hi) (by simpa using hj) hlt
        simp only [List.getElem_map] at this
        exact absurd h2.symm this
      · exact e.symm
      · have := hd j i (by simpa using hj) (by simpa using hi) hlt
        simp only [List.getElem_map] at this
        exact absurd h2 this
    subst hij
    rfl
theorem dD_of {l : List Ds} (hn : (l.map (·.1)).Nodup) {x : Ds} (hx : x ∈ l) : dD l x.1 = x := by
  unfold dD
  rw [dsM_of hn hx]
  rfl
theorem find_no {es : List Ed} (h1 : ∀ p ∈ es, 1 ≤ p.1) {e : Int} (he : e ≤ 0) : es.find? (fun p => decide (p.1 = e)) = none := by
  rw [List.find?_eq_none]
  intro x hx
  have := h1 x hx
  simp
  omega
section
variable {vs : List Int} {es : List Ed} {s : Int} {sv : List Int} {Rt : Int → Option (Nat × Int)}
theorem dsOf_keys (sv : List Int) (Rt : Int → Option (Nat × Int)) : (dsOf sv Rt).map (·.1) = sv := by
  unfold dsOf
  rw [List.map_map]
  conv => rhs; rw [← List.map_id sv]
  exact List.map_congr_left fun v _ => dsAt_key Rt v
theorem tree_refused {ds : List Ds} {v : Int} (hv : v ∈ vs) (h : ownB s ds es (dD ds v) = false) : treeB vs es s ds = false := by
  cases ht : treeB vs es s ds with
  | false => rfl
  | true =>
    unfold treeB at ht
    simp only [Bool.and_eq_true, List.all_eq_true] at ht
    have := (ht.1.1.2 v hv).2
    rw [h] at this
    cases this
theorem keys_set {ds : List Ds} {i : Nat} {x y : Ds} (hx : ds[i]? = some x) (hk : y.1 = x.1) : (ds.set i y).map (·.1) = ds.map (·.1) := by
  rw [List.map_set, hk]
  obtain ⟨hi, rfl⟩ := List.getElem?_eq_some_iff.1 hx
  apply List.ext_getElem?
  intro j
  rw [List.getElem?_set]
  split
  · rename_i h
    subst h
    split
    · rw [List.getElem?_map, List.getElem?_eq_getElem hi]
      rfl
    · rename_i h
      simp at h
      omega
  · rfl
theorem turned {i : Nat} {v : Int} {y : Ds} (hz : tcode (sorted vs) es s = 0) (hv : (sorted vs)[i]? = some v) (hk : y.1 = v) (ho : ∀ ds : List Ds, (∀ u ∈ sorted vs, u ≠ v → dD ds u = dsAt Rt u) → ownB s ds es y = false) : treeB vs es s ((dsOf (sorted vs) Rt).set i y) = false := by
  obtain ⟨hn, hE, h1, h4, hs, _⟩ := tcode_zero hz
  have hperm : (sorted vs).Perm vs := List.mergeSort_perm vs _
  have hx : (dsOf (sorted vs) Rt)[i]? = some (dsAt Rt v) := by unfold dsOf; rw [List.getElem?_map, hv]; rfl
  have hkeys : (((dsOf (sorted vs) Rt).set i y).map (·.1)).Nodup := by
    rw [keys_set hx (by rw [dsAt_key]; exact hk), dsOf_keys]
    exact hn
  have hi := (List.getElem?_eq_some_iff.1 hx).1
  have hy : y ∈ (dsOf (sorted vs) Rt).set i y := List.mem_iff_getElem?.2 ⟨i, by rw [List.getElem?_set, if_pos rfl, if_pos hi]⟩
  refine tree_refused (v := v) (hperm.mem_iff.1 (List.mem_of_getElem? hv)) ?_
  have hdy := dD_of hkeys hy
  rw [hk] at hdy
  rw [hdy]
  refine ho _ fun u hu hne => ?_
  obtain ⟨j, hj, hje⟩ := List.getElem_of_mem hu
  have hxj : (dsOf (sorted vs) Rt)[j]? = some (dsAt Rt u) := by unfold dsOf; rw [List.getElem?_map, List.getElem?_eq_getElem hj, hje]; rfl
  have hij : ¬ i = j := fun e => by
    subst e
    rw [List.getElem?_eq_getElem hj, hje] at hv
    exact hne (Option.some.inj hv)
  have hm : dsAt Rt u ∈ (dsOf (sorted vs) Rt).set i y := List.mem_iff_getElem?.2 ⟨j, by rw [List.getElem?_set, if_neg hij]; exact hxj⟩
  have := dD_of hkeys hm
  rwa [dsAt_key] at this
end
end Go.Proofs.YtgihncjllelonaaGreat.Ce

/- A distance and a tree as arguments. -/
namespace Go.Proofs.YtgihncjllelonaaGreat.Ce
open Go Go.RowKit Go.ChangeShapes Go.WideShapes Go.ChangeAt Go.Deep Go.Proofs.YtgihncjllelonaaGreat.Mem Go.Proofs.YtgihncjllelonaaGreat.Lw Go.Proofs.YtgihncjllelonaaGreat.Tb
set_option linter.unusedSimpArgs false
set_option linter.unusedVariables false

section
variable {H : Type} {enc : TypeId × Value → H} {W : World} {base : Nat} {v : Value} {d : DataW H} {p : List MemPlace}
theorem cells_dist : Tryz.prog.cellsOf 78 = 4 := by kernel_rfl
theorem cells_bool : Tryz.prog.cellsOf 4 = 1 := by kernel_rfl
theorem dist_fields : ∃ f0 f1 f2 f3 : Field, Tryz.prog.underlying 78 = some (.struct #[f0, f1, f2, f3]) ∧ (f0.offset = 0 ∧ f1.offset = 1 ∧ f2.offset = 2 ∧ f3.offset = 3) ∧ f0.type = 3 ∧ f1.type = 4 ∧ f2.type = 72 ∧ f3.type = 3 :=
  ⟨_, _, _, _, Tryz.underlying78, ⟨rfl, rfl, rfl, rfl⟩, rfl, rfl, rfl, rfl⟩
theorem dist_cells {fuel : Nat} {x : DataW H × List MemPlace} {v0 v1 v2 v3 : Value} (h : DataW.trod enc Tryz.prog W 0 (fun _ => true) true fuel 78 [v0, v1, v2, v3] = some x) : ∃ (a : Int) (f : Bool) (b : Nat) (e : Int), v0 = .int .i64 a ∧ v1 = .bool f ∧ v2 = .int .u32 (b : Int) ∧ v3 = .int .i64 e ∧ b < 4294967296 := by
  obtain ⟨f0, f1, f2, f3, hu, ⟨o0, o1, o2, o3⟩, t0, t1, t2, t3⟩ := dist_fields
  obtain ⟨xs, k, hk, hxy, _, hxl, hf⟩ := DataW.trod_struct hu h
  match xs, hxl with
  | [y0, y1, y2, y3], _ =>
    have g0 := hf 0 f0 rfl
    have g1 := hf 1 f1 rfl
    have g2 := hf 2 f2 rfl
    have g3 := hf 3 f3 rfl
    simp [o0, o1, o2, o3, t0, t1, t2, t3, cells_int, cells_u32, cells_bool] at g0 g1 g2 g3
    obtain ⟨x0, hx0, _⟩ := DataW.trod_int Tryz.underlying3 g0
    obtain ⟨x1, hx1, _⟩ := DataW.trod_bool Tryz.underlying4 g1
    obtain ⟨x2, hx2, _, hw2⟩ := DataW.trod_int Tryz.underlying72 g2
    obtain ⟨x3, hx3, _⟩ := DataW.trod_int Tryz.underlying3 g3
    cases hx0
    cases hx1
    cases hx2
    cases hx3
    obtain ⟨b, rfl, hb⟩ := u32_nat hw2
    exact ⟨x0, x1, b, x3, rfl, rfl, rfl, rfl, hb⟩
theorem dists_trod {fuel : Nat} {x : DataW H × List MemPlace} {v0 : Value} (h : DataW.trod enc Tryz.prog W 0 (fun _ => true) true fuel 24 [v0] = some x) : ∃ (l : List Ds) (A : Option Addr) (c : Nat), v0 = .slice A l.length c ∧ RdS W A l ∧ ∀ p ∈ l, p.2.2.1 < 4294967296 := by
  rcases open_slice Tryz.underlying24 h with ⟨hcs, hx⟩ | ⟨a, len', cap', m, n, D, Pl, hcs, _, hl, hm, hmm, hx, hcell⟩
  · have := List.cons.inj hcs |>.1
    exact ⟨[], none, 0, this, fun j v f b e hx => by simp at hx, fun p hp => by cases hp⟩
  · have hv := List.cons.inj hcs |>.1
    simp only [if_true] at hmm
    have num : ∀ i, i < m → ∃ q : Ds, q.2.2.1 < 4294967296 ∧ W.cell? (a.add (i * 4)) = some (.int .i64 q.1) ∧ W.cell? (a.add (i * 4 + 1)) = some (.bool q.2.1) ∧ W.cell? (a.add (i * 4 + 2)) = some (.int .u32 (q.2.2.1 : Int)) ∧ W.cell? (a.add (i * 4 + 3)) = some (.int .i64 q.2.2.2) := by
      intro i hi
      obtain ⟨cs', h1, h2⟩ := hcell i hi
      rw [cells_dist] at h1
      obtain ⟨_, hlen, hc⟩ := World.cells?_some h1
      match cs', hlen with
      | [v0, v1, v2, v3], _ =>
        obtain ⟨u, f, b, e, rfl, rfl, rfl, rfl, hb⟩ := dist_cells (v0 := v0) (v1 := v1) (v2 := v2) (v3 := v3) h2
        have e0 := hc 0 (by omega)
        have e1 := hc 1 (by omega)
        have e2 := hc 2 (by omega)
        have e3 := hc 3 (by omega)
        rw [Go.Deep.add_add] at e0 e1 e2 e3
        exact ⟨(u, f, b, e), hb, by simpa using e0, by simpa using e1, by simpa using e2, by simpa using e3⟩
    obtain ⟨q, hq⟩ := choose_lt num
    refine ⟨(List.range len').map q, some a, cap', by simpa using hv, fun j u f b e hx => ?_, fun p hp => ?_⟩
    · rw [List.getElem?_map] at hx
      have hj : j < len' := by
        rcases Nat.lt_or_ge j len' with h | h
        · exact h
        · rw [List.getElem?_eq_none (by simpa using h)] at hx
          cases hx
      rw [List.getElem?_range hj] at hx
      have hqe : q j = (u, f, b, e) := by simpa using hx
      have h0 := (hq 0 (by omega)).2.1
      have ha : a = ⟨a.block, a.off, none⟩ := plain_of (by rw [Nat.zero_mul, show a.add 0 = a from if_pos rfl] at h0; exact h0)
      obtain ⟨_, h1, h2, h3, h4⟩ := hq j (by omega)
      rw [hqe] at h1 h2 h3 h4
      refine ⟨a.block, a.off, by rw [← ha], ?_, ?_, ?_, ?_⟩
      · rw [← add_plain, ← ha]
        exact h1
      · rw [Nat.add_assoc, ← add_plain, ← ha]
        exact h2
      · rw [Nat.add_assoc, ← add_plain, ← ha]
        exact h3
      · rw [Nat.add_assoc, ← add_plain, ← ha]
        exact h4
    · obtain ⟨i, hi, rfl⟩ := List.mem_map.1 hp
      exact (hq i (by have := List.mem_range.1 hi; omega)).1
theorem cells_tree : Tryz.prog.cellsOf 26 = 2 := by kernel_rfl
theorem tree_fields : ∃ f0 f1 : Field, Tryz.prog.underlying 26 = some (.struct #[f0, f1]) ∧ (f0.offset = 0 ∧ f1.offset = 1) ∧ f0.type = 3 ∧ f1.type = 24 :=
  ⟨_, _, Tryz.underlying26, ⟨rfl, rfl⟩, rfl, rfl⟩
set_option maxRecDepth 100000 in
theorem tree_in (hv : Value.okWide Tryz.prog W .any base 26 v) (h : DataW.Trod enc Tryz.prog W 0 (fun _ => true) true 26 v d p) : ∃ (s : Int) (l : List Ds) (A : Option Addr) (c : Nat), v = .agg #[.int .i64 s, .slice A l.length c] ∧ RdS W A l ∧ ∀ p ∈ l, p.2.2.1 < 4294967296 := by
  obtain ⟨cs, rfl, hsz⟩ := okWide_struct Tryz.underlying26 hv
  rw [cells_tree] at hsz
  obtain ⟨fuel, hf⟩ := h
  obtain ⟨l, hl⟩ : ∃ l, cs.toList = l := ⟨_, rfl⟩
  have hcs : cs = l.toArray := by rw [← hl]
  have hlen : l.length = 2 := by rw [← hl]; simpa using hsz
  match l, hlen with
  | [v0, v1], _ =>
    subst hcs
    obtain ⟨f0, f1, hu, ⟨o0, o1⟩, t0, t1⟩ := tree_fields
    obtain ⟨xs, k, hk, hxy, _, hxl, hf⟩ := DataW.trod_struct (cs := [v0, v1]) hu hf
    match xs, hxl with
    | [y0, y1], _ =>
      have g0 := hf 0 f0 rfl
      have g1 := hf 1 f1 rfl
      have hcp : Tryz.prog.cellsOf 24 = 1 := by kernel_rfl
      simp [o0, o1, t0, t1, cells_int, hcp] at g0 g1
      obtain ⟨x0, hx0, _⟩ := DataW.trod_int Tryz.underlying3 g0
      cases hx0
      obtain ⟨l, A, c, rfl, h1, h2⟩ := dists_trod g1
      exact ⟨x0, l, A, c, rfl, h1, h2⟩
end
end Go.Proofs.YtgihncjllelonaaGreat.Ce

/- brambleref01: parts, Counts, Add: the sum in whole numbers is the rounded one. -/
namespace Go.Proofs.YtgihncjllelonaaGreat.Wt
set_option linter.unusedSimpArgs false
set_option linter.unusedVariables false
open Go Go.RowKit Go.Proofs.YtgihncjllelonaaGreat.Mem

def mP (b : Nat) : Nat := if b < 8388608 then b else 8388608 + b % 8388608
def eP (b : Nat) : Nat := if b < 8388608 then 1 else b / 8388608
def sP (a b : Nat) : Nat := mP a * 2 ^ (eP a - eP b) + mP b
def outP (f t q : Nat) : Nat :=
  let q' := if q = 16777216 then 8388608 else q
  let t' := if q = 16777216 then t + 1 else t
  if 255 ≤ f + t' then 2139095040 else if q' < 8388608 then q' else (f + t') * 8388608 + q' - 8388608
theorem V_parts (b : Nat) : V b = mP b * 2 ^ (eP b - 1) := by
  unfold V mP eP
  split
  · rw [show (1 : Nat) - 1 = 0 from rfl, Nat.pow_zero, Nat.mul_one]
  · rfl
theorem mP_lt (b : Nat) : mP b < 16777216 := by
  unfold mP
  split <;> omega
theorem eP_pos (b : Nat) : 1 ≤ eP b := by
  unfold eP
  split <;> omega
theorem eP_mono {a b : Nat} (h : b ≤ a) : eP b ≤ eP a := by
  unfold eP
  split <;> split <;> omega
theorem eP_lt {a : Nat} (h : a < 2139095040) : eP a < 255 := by
  unfold eP
  split <;> omega
theorem mP_ge {a : Nat} (h : 2 ≤ eP a) : 8388608 ≤ mP a ∧ a = (eP a - 1) * 8388608 + mP a := by
  unfold eP at h
  unfold mP eP
  split at h
  · omega
  · rename_i h1
    rw [if_neg h1, if_neg h1]
    omega
theorem shift_iff (s k : Nat) : 16777216 ≤ s / 2 ^ k ↔ k < s.log2 - 23 := by
  rw [Nat.le_div_iff_mul_le (Nat.two_pow_pos k), show (16777216 : Nat) = 2 ^ 24 from rfl, ← Nat.pow_add]
  by_cases h0 : s = 0
  · subst h0
    have := Nat.two_pow_pos (24 + k)
    have e : Nat.log2 0 = 0 := by decide
    rw [e]
    omega
  · rw [← Nat.le_log2 h0]
    omega
theorem sP_lt {a b : Nat} (h : eP a - eP b < 26) : sP a b < 1125899906842624 := by
  have h1 := mP_lt a
  have h2 := mP_lt b
  have h3 : 2 ^ (eP a - eP b) ≤ 2 ^ 25 := Nat.pow_le_pow_right (by omega) (by omega)
  have h4 : mP a * 2 ^ (eP a - eP b) ≤ 16777216 * 2 ^ 25 := Nat.mul_le_mul (by omega) h3
  unfold sP
  have : (16777216 : Nat) * 2 ^ 25 = 562949953421312 := by decide
  omega
theorem sP_log {a b : Nat} (h : eP a - eP b < 26) : (sP a b).log2 - 23 < 27 := by
  by_cases h0 : sP a b = 0
  · rw [h0]
    decide
  · have := (Nat.log2_lt h0).2 (show sP a b < 2 ^ 50 from sP_lt h)
    omega
theorem sum_parts {a b : Nat} (hba : b ≤ a) : V a + V b = sP a b * 2 ^ (eP b - 1) := by
  have h1 := eP_pos b
  have h2 := eP_mono hba
  rw [V_parts a, V_parts b, sP, Nat.add_mul, Nat.mul_assoc, ← Nat.pow_add, show eP a - eP b + (eP b - 1) = eP a - 1 by omega]
theorem add_far {a b : Nat} (ha : a < 2139095040) (h : 26 ≤ eP a - eP b) : R (V a + V b) = a := by
  have hf := eP_pos b
  have hl := eP_lt ha
  obtain ⟨hm, hav⟩ := mP_ge (a := a) (by omega)
  have hmu := mP_lt a
  have hmb := mP_lt b
  obtain ⟨e, he⟩ : ∃ e, eP a = e + 1 := ⟨eP a - 1, by omega⟩
  have hVb : V b * 4 < 2 ^ e := by
    rw [V_parts b]
    have h2 : 2 ^ 26 * 2 ^ (eP b - 1) ≤ 2 ^ e := by
      rw [← Nat.pow_add]
      exact Nat.pow_le_pow_right (by omega) (by omega)
    have h3 := Nat.two_pow_pos (eP b - 1)
    have h4 : mP b * 2 ^ (eP b - 1) * 4 = (mP b * 4) * 2 ^ (eP b - 1) := by
      rw [Nat.mul_assoc, Nat.mul_assoc, Nat.mul_comm (2 ^ _) 4]
    rw [h4]
    have h5 : (mP b * 4) * 2 ^ (eP b - 1) < 2 ^ 26 * 2 ^ (eP b - 1) := Nat.mul_lt_mul_of_pos_right (show mP b * 4 < 67108864 by omega) h3
    omega
  have hp := Nat.two_pow_pos e
  have hVa : V a = mP a * 2 ^ e := by rw [V_parts a, he]; rfl
  rw [hVa]
  obtain ⟨x, hx⟩ : ∃ x, V b = x := ⟨_, rfl⟩
  rw [hx] at hVb ⊢
  have hlog : (mP a * 2 ^ e + x).log2 = 23 + e := by
    have g1 : 8388608 * 2 ^ e ≤ mP a * 2 ^ e := Nat.mul_le_mul_right _ hm
    have g2 : (mP a + 1) * 2 ^ e ≤ 16777216 * 2 ^ e := Nat.mul_le_mul_right _ (by omega)
    rw [Nat.add_mul, Nat.one_mul] at g2
    rw [Nat.log2_eq_iff (by omega), Nat.pow_add, show 23 + e + 1 = 24 + e by omega, Nat.pow_add]
    exact ⟨by show 8388608 * 2 ^ e ≤ _; omega, by show _ < 16777216 * 2 ^ e; omega⟩
  have h0 : mP a * 2 ^ e + x ≠ 0 := by
    have g1 : 8388608 * 2 ^ e ≤ mP a * 2 ^ e := Nat.mul_le_mul_right _ hm
    omega
  have hd : (mP a * 2 ^ e + x) / 2 ^ e = mP a := by
    rw [Nat.add_comm, Nat.add_mul_div_right _ _ hp, Nat.div_eq_of_lt (by omega), Nat.zero_add]
  have hr : (mP a * 2 ^ e + x) % 2 ^ e = x := by
    rw [Nat.add_comm, Nat.add_mul_mod_self_right, Nat.mod_eq_of_lt (by omega)]
  have hne : rne (mP a * 2 ^ e + x) e = mP a := by
    unfold rne
    rw [hd, hr, decide_eq_false (by omega), show ((2 ^ e == 2 * x) : Bool) = false from beq_eq_false_iff_ne.2 (by omega)]
    rfl
  unfold R
  rw [if_neg h0, hlog, show 23 + e - 23 = e by omega, hne, Nat.min_eq_left (by omega)]
  omega
theorem rne_range {s : Nat} (h : 23 ≤ s.log2) : 8388608 ≤ rne s (s.log2 - 23) ∧ rne s (s.log2 - 23) ≤ 16777216 := by
  have h0 : s ≠ 0 := by
    rintro rfl
    revert h
    decide
  have h1 := Nat.log2_self_le h0
  have h2 := @Nat.lt_log2_self s
  obtain ⟨t, ht⟩ : ∃ t, s.log2 = t + 23 := ⟨s.log2 - 23, by omega⟩
  rw [ht] at h1 h2 ⊢
  rw [Nat.add_sub_cancel]
  have hp := Nat.two_pow_pos t
  have g1 : 8388608 ≤ s / 2 ^ t := by
    rw [Nat.le_div_iff_mul_le hp]
    rw [Nat.pow_add, Nat.mul_comm] at h1
    exact h1
  have g2 : s / 2 ^ t < 16777216 := by
    rw [Nat.div_lt_iff_lt_mul hp]
    rw [show t + 23 + 1 = t + 24 by omega, Nat.pow_add, Nat.mul_comm] at h2
    exact h2
  have g3 := Bool.toNat_le (decide (2 ^ t < 2 * (s % 2 ^ t)) || (2 ^ t == 2 * (s % 2 ^ t) && s / 2 ^ t % 2 == 1))
  unfold rne
  omega
theorem add_near {a b : Nat} (hba : b ≤ a) (ha : a < 2139095040) : R (V a + V b) = outP (eP b) ((sP a b).log2 - 23) (rne (sP a b) ((sP a b).log2 - 23)) := by
  have hf := eP_pos b
  have hl := eP_lt (a := b) (by omega)
  rw [sum_parts hba]
  by_cases h23 : 23 ≤ (sP a b).log2
  · obtain ⟨g1, g2⟩ := rne_range h23
    obtain ⟨t, ht⟩ : ∃ t, (sP a b).log2 = t + 23 := ⟨(sP a b).log2 - 23, by omega⟩
    have h0 : sP a b ≠ 0 := by
      intro e
      rw [e] at h23
      revert h23
      decide
    have hp := Nat.two_pow_pos (eP b - 1)
    have hn : sP a b * 2 ^ (eP b - 1) ≠ 0 := Nat.ne_of_gt (Nat.mul_pos (Nat.pos_of_ne_zero h0) hp)
    have hsc := rne_scale (sP a b) (eP b - 1) t
    rw [ht, Nat.add_sub_cancel] at g1 g2 ⊢
    unfold R
    rw [if_neg hn, log2_pow _ h0, ht, show t + 23 + (eP b - 1) - 23 = eP b - 1 + t by omega, hsc]
    obtain ⟨q, hq⟩ : ∃ q, rne (sP a b) t = q := ⟨_, rfl⟩
    rw [hq] at g1 g2 ⊢
    clear hq hsc hn hp h0 ht h23
    obtain ⟨f, rfl'⟩ : ∃ f, eP b = f := ⟨_, rfl⟩
    rw [rfl'] at hf hl ⊢
    unfold outP
    by_cases hq : q = 16777216
    · subst hq
      simp only [if_pos, if_neg (show ¬ (8388608 : Nat) < 8388608 by omega)]
      split <;> omega
    · simp only [if_neg hq]
      rw [if_neg (show ¬ q < 8388608 by omega)]
      split <;> omega
  · have hs : sP a b < 8388608 := by
      by_cases h0 : sP a b = 0
      · omega
      · exact (Nat.log2_lt (k := 23) h0).1 (by omega)
    have he : eP a = 1 := by
      have hp := eP_pos a
      by_cases h2 : 2 ≤ eP a
      · exfalso
        have g1 := (mP_ge h2).1
        have g2 := Nat.two_pow_pos (eP a - eP b)
        have g3 : mP a * 1 ≤ mP a * 2 ^ (eP a - eP b) := Nat.mul_le_mul_left _ g2
        unfold sP at hs
        omega
      · omega
    have hb1 : eP b = 1 := by
      have := eP_mono hba
      omega
    rw [hb1, show (1 : Nat) - 1 = 0 from rfl, Nat.pow_zero, Nat.mul_one, show (sP a b).log2 - 23 = 0 by omega, rne_zero]
    obtain ⟨s, es⟩ : ∃ s, sP a b = s := ⟨_, rfl⟩
    rw [es] at hs h23 ⊢
    unfold outP R
    rw [show s.log2 - 23 = 0 by omega, rne_zero]
    simp only [if_neg (show ¬ s = 16777216 by omega)]
    rw [if_neg (show ¬ 255 ≤ 1 + 0 by omega), if_pos hs]
    split <;> omega
theorem rne_up (s t : Nat) (h : (decide (2 ^ t < 2 * (s % 2 ^ t)) || (2 ^ t == 2 * (s % 2 ^ t) && s / 2 ^ t % 2 == 1)) = true) : rne s t = s / 2 ^ t + 1 := by
  unfold rne
  rw [h]
  rfl
theorem rne_down (s t : Nat) (h : (decide (2 ^ t < 2 * (s % 2 ^ t)) || (2 ^ t == 2 * (s % 2 ^ t) && s / 2 ^ t % 2 == 1)) = false) : rne s t = s / 2 ^ t := by
  unfold rne
  rw [h]
  rfl
theorem add32_comm {a b : Nat} (ha : a ≤ 2139095040) (hb : b ≤ 2139095040) : add32 a b = add32 b a := by
  by_cases h : a = 2139095040 ∨ b = 2139095040
  · rw [add32_inf ha hb h, add32_inf hb ha h.symm]
  · rw [add32_fin (by omega) (by omega), add32_fin (by omega) (by omega), Nat.add_comm]
theorem R_mono {M N : Nat} (h : M ≤ N) : R M ≤ R N := by
  by_cases h0 : M = 0
  · subst h0
    exact Nat.zero_le _
  have hn0 : N ≠ 0 := by omega
  unfold R
  rw [if_neg h0, if_neg hn0]
  have hlm : M.log2 ≤ N.log2 := (Nat.le_log2 hn0).2 (Nat.le_trans (Nat.log2_self_le h0) h)
  have hmin : ∀ x y : Nat, x ≤ y → min x 2139095040 ≤ min y 2139095040 := by
    intro x y hxy
    omega
  apply hmin
  by_cases hlt : M.log2 - 23 < N.log2 - 23
  · by_cases h23 : 23 ≤ M.log2
    · have g1 := (rne_range h23).2
      have g2 := (rne_range (s := N) (by omega)).1
      have : (M.log2 - 23 + 1) * 8388608 ≤ (N.log2 - 23) * 8388608 := Nat.mul_le_mul_right _ hlt
      omega
    · have hM : M < 8388608 := (Nat.log2_lt (k := 23) h0).1 (by omega)
      rw [show M.log2 - 23 = 0 by omega, rne_zero]
      have g2 := (rne_range (s := N) (by omega)).1
      omega
  · have e : M.log2 - 23 = N.log2 - 23 := by omega
    rw [e]
    refine Nat.add_le_add_left ?_ _
    obtain ⟨t, ht⟩ : ∃ t, N.log2 - 23 = t := ⟨_, rfl⟩
    rw [ht]
    have hd : M / 2 ^ t ≤ N / 2 ^ t := Nat.div_le_div_right h
    by_cases hq : M / 2 ^ t = N / 2 ^ t
    · have hm1 := Nat.div_add_mod M (2 ^ t)
      have hn1 := Nat.div_add_mod N (2 ^ t)
      have hr : M % 2 ^ t ≤ N % 2 ^ t := by
        rw [hq] at hm1
        omega
      unfold rne
      rw [hq]
      refine Nat.add_le_add_left ?_ _
      generalize 2 ^ t = P at *
      by_cases c1 : (decide (P < 2 * (M % P)) || (P == 2 * (M % P) && N / P % 2 == 1)) = true
      · have c2 : (decide (P < 2 * (N % P)) || (P == 2 * (N % P) && N / P % 2 == 1)) = true := by
          simp only [Bool.or_eq_true, decide_eq_true_eq, Bool.and_eq_true, beq_iff_eq] at c1 ⊢
          omega
        rw [c1, c2]
        exact Nat.le_refl _
      · rw [Bool.eq_false_iff.2 c1]
        exact Nat.zero_le _
    · have g1 : rne M t ≤ M / 2 ^ t + 1 := by
        unfold rne
        have := Bool.toNat_le (decide (2 ^ t < 2 * (M % 2 ^ t)) || (2 ^ t == 2 * (M % 2 ^ t) && M / 2 ^ t % 2 == 1))
        omega
      have g2 := rne_ge N t
      omega
theorem V_mono {a b : Nat} (h : a ≤ b) : V a ≤ V b := V_le_iff.2 h
theorem add32_mono {a b c : Nat} (hab : a ≤ b) (hb : b ≤ 2139095040) (hc : c < 4294967296) : add32 a c ≤ add32 b c := by
  have hcc := cnt_le hc
  have hcb : ∀ x, add32 x c = add32 x (cnt c) := by
    intro x
    unfold add32
    rw [cnt_cost hcc]
  rw [hcb a, hcb b]
  by_cases h : b = 2139095040 ∨ cnt c = 2139095040
  · rw [add32_inf hb hcc h]
    exact (add32_some (by omega) (by omega)).2
  · rw [add32_fin (by omega) (by omega), add32_fin (by omega) (by omega)]
    exact R_mono (Nat.add_le_add_right (V_mono hab) _)
end Go.Proofs.YtgihncjllelonaaGreat.Wt

/- tree: Dist, Last, Dists. -/
namespace Go.Proofs.YtgihncjllelonaaGreat.Ce
open Go Go.RowKit Go.MapKept Go.Proofs.YtgihncjllelonaaGreat.Mem Go.Proofs.YtgihncjllelonaaGreat.Sl Go.Proofs.YtgihncjllelonaaGreat.Lw Go.Proofs.YtgihncjllelonaaGreat.Wt Go.Proofs.YtgihncjllelonaaGreat.Tb Go.Proofs.YtgihncjllelonaaGreat.Scc Go.Proofs.YtgihncjllelonaaGreat.Tj Go.Proofs.YtgihncjllelonaaGreatW.PrintWords Go.Proofs.YtgihncjllelonaaGreatW.PrintLast
attribute [local go_sem ↓] Go.wp_at_zero Go.wp_at_succ
attribute [local go_sem] Go.Proofs.YtgihncjllelonaaGreat.Wt.run_store_float
set_option linter.unusedSimpArgs false
set_option linter.unusedVariables false

structure TrM (W : World) (gt n cv me ms : Nat) (A : Option Addr) (s : Int) (sv : List Int) (Rt : Int → Option (Nat × Int)) : Prop where
  hat : At W gt [.int .i64 s, .slice A n cv, .map (some me), .map (some ms)] 115
  rd : RdI W A sv
  sm : MQ W ms (spF Rt)
section
variable {W W' : World} {gt n cv me ms : Nat} {A : Option Addr} {s : Int} {sv : List Int} {Rt : Int → Option (Nat × Int)}
theorem TrM.below (h : TrM W gt n cv me ms A s sv Rt) (hb : Below W.heap.size W W') : TrM W' gt n cv me ms A s sv Rt := ⟨h.hat.below hb h.hat.lt, h.rd.below hb, h.sm.below hb h.sm.lt⟩
theorem TrM.of {w0 : World} {es : List Ed} (h : TreeM w0 W gt n cv me ms A s sv es Rt) : TrM W gt n cv me ms A s sv Rt := ⟨h.hat, (RdI.of_own h.ro).1, h.sm⟩
end
end Go.Proofs.YtgihncjllelonaaGreat.Ce
