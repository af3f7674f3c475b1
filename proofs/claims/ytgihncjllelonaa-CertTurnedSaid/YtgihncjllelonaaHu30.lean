/- Plain: the sum of two costs as a whole number that is rounded. -/
import Derived.Test.YtgihncjllelonaaHu13
import Derived.Test.YtgihncjllelonaaHu14
import Derived.Test.YtgihncjllelonaaHu22
namespace Go.Proofs.Ytgihncjllelonaa.Wt
set_option linter.unusedSimpArgs false
set_option linter.unusedVariables false

def rne (N t : Nat) : Nat := N / 2 ^ t + (decide (2 ^ t < 2 * (N % 2 ^ t)) || (2 ^ t == 2 * (N % 2 ^ t) && N / 2 ^ t % 2 == 1)).toNat
def R (N : Nat) : Nat := if N = 0 then 0 else min ((N.log2 - 23) * 8388608 + rne N (N.log2 - 23)) 2139095040
theorem log2_pow {m : Nat} (k : Nat) (h : m ≠ 0) : (m * 2 ^ k).log2 = m.log2 + k := by
  have hp := Nat.two_pow_pos k
  have h1 := Nat.log2_self_le h
  have h2 := @Nat.lt_log2_self m
  rw [Nat.log2_eq_iff (by have := Nat.mul_pos (Nat.pos_of_ne_zero h) hp; omega)]
  refine ⟨?_, ?_⟩
  · rw [Nat.pow_add]
    exact Nat.mul_le_mul_right _ h1
  · rw [show m.log2 + k + 1 = (m.log2 + 1) + k by omega, Nat.pow_add]
    exact Nat.mul_lt_mul_of_pos_right h2 hp
theorem cut_even (n d : Nat) (hd : d ≤ n.log2 + 2) : Ieee.Toward.even.cut false n d = rne n d := by
  unfold Ieee.Toward.cut rne
  rw [Nat.min_eq_left hd, Nat.shiftLeft_eq, Nat.one_mul]
theorem rne_scale (m k d : Nat) : rne (m * 2 ^ k) (k + d) = rne m d := by
  have hp := Nat.two_pow_pos k
  have e1 : 2 ^ (k + d) = 2 ^ d * 2 ^ k := by rw [Nat.add_comm, Nat.pow_add]
  unfold rne
  rw [e1, Nat.mul_div_mul_right _ _ hp, Nat.mul_mod_mul_right, ← Nat.mul_assoc]
  generalize m % 2 ^ d = r
  generalize 2 ^ k = K at *
  generalize 2 ^ d = D
  have c1 : decide (D * K < 2 * r * K) = decide (D < 2 * r) := by
    simp only [decide_eq_decide]
    exact Nat.mul_lt_mul_right hp
  have c2 : (D * K == 2 * r * K) = (D == 2 * r) := by
    rw [Bool.eq_iff_iff]
    simp only [beq_iff_eq]
    exact ⟨fun h => Nat.eq_of_mul_eq_mul_right hp h, fun h => by rw [h]⟩
  rw [c1, c2]
theorem rne_zero (n : Nat) : rne n 0 = n := by
  unfold rne
  simp [Nat.mod_one]
theorem rne_exact (m t j : Nat) : rne (m * 2 ^ (t + j)) t = m * 2 ^ j := by
  have := rne_scale (m * 2 ^ j) t 0
  rw [Nat.add_zero, rne_zero] at this
  rw [Nat.pow_add, Nat.mul_comm (2 ^ t), ← Nat.mul_assoc]
  exact this
theorem kept_val (mag k : Nat) (h0 : mag ≠ 0) (lp : Int) : Ieee.Toward.even.cut false (mag <<< (lp + (k : Int) - max (lp + (k : Int) + (mag.log2 : Int) - 23) lp).toNat) (max (lp + (k : Int) + (mag.log2 : Int) - 23) lp - (lp + (k : Int))).toNat = rne (mag * 2 ^ k) (mag.log2 + k - 23) := by
  obtain ⟨t, ht⟩ : ∃ t, mag.log2 + k - 23 = t := ⟨_, rfl⟩
  rw [ht]
  by_cases hkt : t ≤ k
  · have e2 : (lp + (k : Int) - max (lp + (k : Int) + (mag.log2 : Int) - 23) lp).toNat = k - t := by omega
    have e3 : (max (lp + (k : Int) + (mag.log2 : Int) - 23) lp - (lp + (k : Int))).toNat = 0 := by omega
    rw [e2, e3, cut_even _ 0 (Nat.zero_le _), rne_zero, Nat.shiftLeft_eq]
    have := rne_exact mag t (k - t)
    rw [show t + (k - t) = k by omega] at this
    exact this.symm
  · have e2 : (lp + (k : Int) - max (lp + (k : Int) + (mag.log2 : Int) - 23) lp).toNat = 0 := by omega
    have e3 : (max (lp + (k : Int) + (mag.log2 : Int) - 23) lp - (lp + (k : Int))).toNat = t - k := by omega
    rw [e2, e3, Nat.shiftLeft_eq, Nat.pow_zero, Nat.mul_one, cut_even _ _ (by omega)]
    have := rne_scale mag k (t - k)
    rw [show k + (t - k) = t by omega] at this
    exact this.symm
theorem word_false (r : Nat) : Ieee.single.word false r = r := by
  unfold Ieee.Format.word
  rw [if_neg (by decide)]
theorem nearest_val (mag k : Nat) : Ieee.single.nearest false mag (Ieee.single.leastPlace + (k : Int)) = R (mag * 2 ^ k) := by
  by_cases h0 : mag = 0
  · subst h0
    unfold Ieee.Format.nearest R
    rw [if_pos rfl, if_pos (Nat.zero_mul _), word_false]
  · have hp := Nat.two_pow_pos k
    have hn : mag * 2 ^ k ≠ 0 := Nat.ne_of_gt (Nat.mul_pos (Nat.pos_of_ne_zero h0) hp)
    have hk := kept_val mag k h0 Ieee.single.leastPlace
    have e1 : (max (Ieee.single.leastPlace + (k : Int) + (mag.log2 : Int) - 23) Ieee.single.leastPlace - Ieee.single.leastPlace).toNat = mag.log2 + k - 23 := by
      generalize Ieee.single.leastPlace = lp
      omega
    have hfb : ((Ieee.single.fractionBits : Nat) : Int) = 23 := rfl
    unfold Ieee.Format.nearest R
    rw [if_neg h0, if_neg hn, log2_pow k h0]
    dsimp only
    rw [hfb, hk, e1, inf_eq, bin_eq, word_false]
theorem add_val {a b : Nat} (ha : a < 2139095040) (hb : b < 2139095040) : Ieee.single.add a b = some (R (V a + V b)) := by
  obtain ⟨m, e, h1, v1⟩ := read_fin ha
  obtain ⟨n, f, h2, v2⟩ := read_fin hb
  unfold Ieee.Format.add
  rw [h1, h2]
  show some (Ieee.Format.write Ieee.single (.number (if _ then _ else _) _ _)) = _
  simp only [signed_false]
  have hneg : ∀ (x y : Nat), (if ((x : Int) + (y : Int)) = 0 then (false && false) else decide ((x : Int) + (y : Int) < 0)) = false := by
    intro x y
    split
    · rfl
    · simp; omega
  rw [hneg]
  have hbase : min (Ieee.single.leastPlace + (e : Int)) (Ieee.single.leastPlace + (f : Int)) = Ieee.single.leastPlace + ((min e f : Nat) : Int) := by
    generalize Ieee.single.leastPlace = lp
    omega
  have he : (Ieee.single.leastPlace + (e : Int) - min (Ieee.single.leastPlace + (e : Int)) (Ieee.single.leastPlace + (f : Int))).toNat = e - min e f := by
    generalize Ieee.single.leastPlace = lp
    omega
  have hf : (Ieee.single.leastPlace + (f : Int) - min (Ieee.single.leastPlace + (e : Int)) (Ieee.single.leastPlace + (f : Int))).toNat = f - min e f := by
    generalize Ieee.single.leastPlace = lp
    omega
  rw [he, hf, hbase]
  have habs : ((((m * 2 ^ (e - min e f) : Nat) : Int)) + ((n * 2 ^ (f - min e f) : Nat) : Int)).natAbs = m * 2 ^ (e - min e f) + n * 2 ^ (f - min e f) := by
    rw [← Int.natCast_add, Int.natAbs_natCast]
  rw [habs]
  show some (Ieee.single.nearest false _ _) = _
  rw [nearest_val, Nat.add_mul, Nat.mul_assoc, Nat.mul_assoc, ← Nat.pow_add, ← Nat.pow_add, show e - min e f + min e f = e by omega, show f - min e f + min e f = f by omega, v1, v2]
theorem rne_ge (N t : Nat) : N / 2 ^ t ≤ rne N t := by
  unfold rne
  exact Nat.le_add_right _ _
theorem R_ge {a N : Nat} (ha : a ≤ 2139095040) (h : V a ≤ N) : a ≤ R N := by
  unfold R
  by_cases h0 : N = 0
  · subst h0
    rw [if_pos rfl]
    have := V_le_iff (a := a) (b := 0)
    have h2 : V 0 = 0 := rfl
    rw [h2] at this
    exact this.1 h
  · rw [if_neg h0]
    refine Nat.le_min.2 ⟨?_, ha⟩
    obtain ⟨t, ht⟩ : ∃ t, N.log2 - 23 = t := ⟨_, rfl⟩
    rw [ht]
    have hr := rne_ge N t
    have hlog := Nat.log2_self_le h0
    by_cases ht0 : t = 0
    · subst ht0
      rw [rne_zero]
      have hN : N < 2 ^ 24 := Nat.lt_of_lt_of_le Nat.lt_log2_self (Nat.pow_le_pow_right (by omega) (by omega))
      have hN : N < 16777216 := hN
      have hV : V N = N := by
        unfold V
        by_cases h1 : N < 8388608
        · rw [if_pos h1]
        · rw [if_neg h1, show N / 8388608 = 1 by omega, show N % 8388608 = N - 8388608 by omega]
          omega
      rw [← hV] at h
      have := V_le_iff.1 h
      omega
    · -- the leading digit is kept
      have hk : 8388608 ≤ N / 2 ^ t := by
        rw [Nat.le_div_iff_mul_le (Nat.two_pow_pos t)]
        refine Nat.le_trans ?_ hlog
        rw [show (8388608 : Nat) = 2 ^ 23 from rfl, ← Nat.pow_add]
        exact Nat.pow_le_pow_right (by omega) (by omega)
      by_cases h1 : a < 8388608
      · omega
      · unfold V at h
        rw [if_neg h1] at h
        obtain ⟨q, hq⟩ : ∃ q, a / 8388608 = q + 1 := ⟨a / 8388608 - 1, by omega⟩
        rw [hq, Nat.add_sub_cancel] at h
        have had : a = (q + 1) * 8388608 + a % 8388608 := by omega
        rcases Nat.lt_trichotomy q t with hqt | hqt | hqt
        · have : (q + 1) * 8388608 ≤ t * 8388608 := Nat.mul_le_mul_right _ hqt
          omega
        · subst hqt
          have : 8388608 + a % 8388608 ≤ N / 2 ^ q := (Nat.le_div_iff_mul_le (Nat.two_pow_pos q)).2 h
          omega
        · exfalso
          have h3 : 2 ^ (23 + q) ≤ N := by
            refine Nat.le_trans ?_ h
            rw [Nat.pow_add]
            exact Nat.mul_le_mul_right _ (by omega)
          have := (Nat.le_log2 h0).2 h3
          omega
theorem add32_fin {a b : Nat} (ha : a < 2139095040) (hb : b < 2139095040) : add32 a b = R (V a + V b) := by
  unfold add32
  rw [cnt_cost (by omega), cnt_cost (by omega), add_val ha hb]
  rfl
theorem add32_inf {a b : Nat} (ha : a ≤ 2139095040) (hb : b ≤ 2139095040) (h : a = 2139095040 ∨ b = 2139095040) : add32 a b = 2139095040 := by
  unfold add32
  rw [cnt_cost ha, cnt_cost hb]
  unfold Ieee.Format.add
  rcases h with rfl | rfl
  · rw [read_inf]
    by_cases hb' : b = 2139095040
    · subst hb'; rfl
    · obtain ⟨m, e, h1, _⟩ := read_fin (show b < 2139095040 by omega)
      rw [h1]
      rfl
  · rw [read_inf]
    by_cases ha' : a = 2139095040
    · subst ha'; rfl
    · obtain ⟨m, e, h1, _⟩ := read_fin (show a < 2139095040 by omega)
      rw [h1]
      rfl
theorem add32_ge {a b : Nat} (ha : a ≤ 2139095040) (hb : b < 4294967296) : a ≤ add32 a b := by
  have hc := cnt_le hb
  have hcb : add32 a b = add32 a (cnt b) := by
    unfold add32
    rw [cnt_cost hc]
  rw [hcb]
  by_cases h : a = 2139095040 ∨ cnt b = 2139095040
  · rw [add32_inf ha hc h]
    exact ha
  · rw [add32_fin (by omega) (by omega)]
    exact R_ge ha (Nat.le_add_right _ _)
end Go.Proofs.Ytgihncjllelonaa.Wt

/- tree.Build's machine: what its answer is: plain. -/
namespace Go.Proofs.Ytgihncjllelonaa.Tb
open Go Go.Proofs.Ytgihncjllelonaa.Hn Go.Proofs.Ytgihncjllelonaa.Hf Go.Proofs.Ytgihncjllelonaa.Wt
set_option linter.unusedSimpArgs false
set_option linter.unusedVariables false

theorem heap_min {its : List Itm} (h : IsHeap its) : ∀ j, j < its.length → leI (its.getD 0 z) (its.getD j z)
  | 0, _ => leI_refl _
  | j + 1, hj => by
    have h1 := h (j + 1) (by omega) hj
    have h2 := heap_min h ((j + 1 - 1) / 2) (by omega)
    exact leI_trans h2 h1
  termination_by j => j
theorem heap_root {a : Itm} {r : List Itm} (h : IsHeap (a :: r)) : ∀ x ∈ a :: r, a.2.1 ≤ x.2.1 := fun x hx => by
  obtain ⟨j, hj, rfl⟩ := List.getElem_of_mem hx
  have := heap_min h j hj
  rw [List.getD_eq_getElem?_getD, List.getD_eq_getElem?_getD, List.getElem?_eq_getElem hj, leI_iff] at this
  have e0 : ((a :: r)[0]?).getD z = a := rfl
  rw [e0] at this
  have e1 : (some (a :: r)[j]).getD z = (a :: r)[j] := rfl
  rw [e1] at this
  omega
structure DOk (es : List Ed) (s : Int) (D : List Int) (d : Nat) (dn : Ed → Prop) (st : Dj) : Prop where
  i1 : ∀ x ∈ st.its, x.1 ∉ D ∧ ∃ e, st.sp x.1 = some (x.2.1, e)
  i2 : ∀ v r, st.sp v = some r → v ∈ D ∨ ∃ x ∈ st.its, x.1 = v
  i3 : ∀ v ∈ D, ∃ r, st.sp v = some r ∧ r.1 ≤ d
  i3' : ∀ x ∈ st.its, d ≤ x.2.1
  nd : D.Nodup
  i4 : ∀ p, dn p → p.2.1 ∈ D ∧ ∃ cu eu r, st.sp p.2.1 = some (cu, eu) ∧ st.sp p.2.2.1 = some r ∧ r.1 ≤ add32 cu p.2.2.2
  i5 : ∀ v r, st.sp v = some r → v ≠ s → ∃ u b cu eu, (r.2, u, v, b) ∈ es ∧ u ∈ D ∧ u ≠ v ∧ st.sp u = some (cu, eu) ∧ r.1 = add32 cu b ∧ (v ∈ D → D.idxOf u < D.idxOf v)
  i6 : st.sp s = some (0, 0)
  i7 : ∀ v r, st.sp v = some r → r.1 ≤ 2139095040
section
variable {es : List Ed} {s : Int} {D : List Int} {d : Nat} {dn : Ed → Prop} {st st2 : Dj} {sv : List Int}
theorem set_eq (sp : Int → Option (Nat × Int)) (v : Int) (r : Nat × Int) : setP sp v r v = some r := by simp [setP]
theorem set_ne {sp : Int → Option (Nat × Int)} {v w : Int} {r : Nat × Int} (h : w ≠ v) : setP sp v r w = sp w := by simp [setP, h]
theorem relax_keep (h : DOk es s D d dn st) (hI : DInv sv st) {a ea : Int} (ha : a ∈ D) (hsa : st.sp a = some (d, ea)) {e v : Int} {b : Nat} (hx : (e, a, v, b) ∈ es) (hb : b < 4294967296) (hf : es.find? (fun p => decide (p.1 = e)) = some (e, a, v, b)) (hr : relaxE es d st e = some st2) :
    DOk es s D d (fun p => dn p ∨ p = (e, a, v, b)) st2 ∧ st2.sp a = some (d, ea) := by
  obtain ⟨u', v', b', hf', _, _, hcase⟩ := relaxE_some hr
  rw [hf] at hf'
  cases hf'
  have hd : d ≤ 2139095040 := h.i7 a _ hsa
  have hge : d ≤ add32 d b := add32_ge hd hb
  have hle : add32 d b ≤ 2139095040 := (add32_some (show d < 4294967296 by omega) hb).2
  rcases hcase with ⟨hs, hny, T, hT, rfl⟩ | ⟨r, hs, ⟨hlt, T, hT, rfl⟩ | ⟨hnl, rfl⟩⟩
  · obtain ⟨T', t1, _, _, t4⟩ := push_ok hI.hp (v, add32 d b, (st.came : Int) + 1)
    rw [hT] at t1
    cases t1
    have hne : ∀ {w : Int} {r : Nat × Int}, st.sp w = some r → w ≠ v := fun hw e => by rw [e, hs] at hw; cases hw
    have hvD : v ∉ D := fun hv => by
      obtain ⟨r, h1, _⟩ := h.i3 v hv
      rw [hs] at h1
      cases h1
    refine ⟨⟨fun x hx => ?_, fun w r hw => ?_, fun w hw => ?_, fun x hx => ?_, h.nd, fun p hp => ?_, fun w r hw hws => ?_, ?_, fun w r hw => ?_⟩, ?_⟩
    · rcases (t4 x).1 hx with hx | rfl
      · obtain ⟨h1, e', h2⟩ := h.i1 x hx
        exact ⟨h1, e', (set_ne (hne h2)).trans h2⟩
      · exact ⟨hvD, e, set_eq _ _ _⟩
    · by_cases hwv : w = v
      · exact .inr ⟨_, (t4 _).2 (.inr rfl), hwv.symm⟩
      · replace hw := (set_ne (sp := st.sp) (r := (add32 d b, e)) hwv).symm.trans hw
        rcases h.i2 w r hw with h1 | ⟨x, h1, h2⟩
        · exact .inl h1
        · exact .inr ⟨x, (t4 x).2 (.inl h1), h2⟩
    · obtain ⟨r, h1, h2⟩ := h.i3 w hw
      exact ⟨r, (set_ne (hne h1)).trans h1, h2⟩
    · rcases (t4 x).1 hx with hx | rfl
      · exact h.i3' x hx
      · exact hge
    · rcases hp with hp | rfl
      · obtain ⟨h0, cu, eu, r, h1, h2, h3⟩ := h.i4 p hp
        exact ⟨h0, cu, eu, r, (set_ne (hne h1)).trans h1, (set_ne (hne h2)).trans h2, h3⟩
      · exact ⟨ha, d, ea, _, (set_ne (hne hsa)).trans hsa, set_eq _ _ _, Nat.le_refl _⟩
    · by_cases hwv : w = v
      · subst hwv
        replace hw := (set_eq st.sp w (add32 d b, e)).symm.trans hw
        cases hw
        exact ⟨a, b, d, ea, hx, ha, hne hsa, (set_ne (hne hsa)).trans hsa, rfl, fun hw => absurd hw hvD⟩
      · replace hw := (set_ne (sp := st.sp) (r := (add32 d b, e)) hwv).symm.trans hw
        obtain ⟨u, bu, cu, eu, g1, g2, g3, g4, g5, g6⟩ := h.i5 w r hw hws
        exact ⟨u, bu, cu, eu, g1, g2, g3, (set_ne (hne g4)).trans g4, g5, g6⟩
    · exact (set_ne (hne h.i6)).trans h.i6
    · by_cases hwv : w = v
      · subst hwv
        replace hw := (set_eq st.sp w (add32 d b, e)).symm.trans hw
        cases hw
        exact hle
      · replace hw := (set_ne (sp := st.sp) (r := (add32 d b, e)) hwv).symm.trans hw
        exact h.i7 w r hw
    · exact (set_ne (hne hsa)).trans hsa
  · have hvD : v ∉ D := fun hv => by
      obtain ⟨r', h1, h2⟩ := h.i3 v hv
      rw [hs] at h1
      cases h1
      omega
    have hDv : ∀ {w : Int}, w ∈ D → w ≠ v := fun hw e => hvD (e ▸ hw)
    have hsv : s ≠ v := fun e => by
      have := h.i6
      rw [e, hs] at this
      cases this
      omega
    obtain ⟨x0, hx0, hk0⟩ : ∃ x ∈ st.its, x.1 = v := by
      rcases h.i2 v r hs with h1 | h1
      · exact absurd h1 hvD
      · exact h1
    obtain ⟨f, hfit⟩ := hI.ft
    have hmem : ∀ y, y ∈ T ↔ (y ∈ st.its ∧ y.1 ≠ v) ∨ (y.1 = v ∧ y.2.1 = add32 d b ∧ y ∈ T) := by
      have hc : ∃ (i : Nat) (x : Itm), st.its[i]? = some x ∧ x.1 = v ∧ add32 d b < x.2.1 ∧ upS (st.its.length + 1) (st.its.set i (v, add32 d b, x.2.2)) i = some T := by
        unfold lowS at hT
        cases hi : st.its.findIdx? (fun x => decide (x.1 = v)) with
        | none =>
          rw [List.findIdx?_eq_none_iff] at hi
          have := hi x0 hx0
          simp [hk0] at this
        | some i =>
          rw [hi] at hT
          obtain ⟨hil, hk, _⟩ := List.findIdx?_eq_some_iff_getElem.1 hi
          have hia : st.its[i]? = some st.its[i] := List.getElem?_eq_getElem hil
          have hk : st.its[i].1 = v := by simpa using hk
          dsimp only at hT
          rw [getD_of hia] at hT
          obtain ⟨_, e', h2⟩ := h.i1 _ (List.getElem_mem hil)
          rw [hk, hs] at h2
          cases h2
          rw [if_pos hlt] at hT
          exact ⟨i, _, hia, hk, hlt, hT⟩
      obtain ⟨i, x, hia, hk, hp, hT'⟩ := hc
      subst hk
      obtain ⟨T', t1, _, _, t4⟩ := lower_ok hI.hp hia hp
      rw [hT'] at t1
      cases t1
      have hil := (List.getElem?_eq_some_iff.1 hia).1
      intro y
      constructor
      · intro hy
        rcases List.mem_or_eq_of_mem_set ((t4 y).1 hy) with hm | rfl
        · by_cases hyk : y.1 = x.1
          · -- the item itself, put anew
            obtain ⟨j, hj⟩ := List.mem_iff_getElem?.1 ((t4 y).1 hy)
            rw [List.getElem?_set] at hj
            split at hj
            · cases hj
              exact .inr ⟨rfl, rfl, hy⟩
            · have := fits_uniq hfit hj hia hyk
              omega
          · exact .inl ⟨hm, hyk⟩
        · exact .inr ⟨rfl, rfl, hy⟩
      · rintro (⟨h1, h2⟩ | ⟨_, _, h3⟩)
        · obtain ⟨j, hj⟩ := List.mem_iff_getElem?.1 h1
          refine (t4 y).2 (List.mem_iff_getElem?.2 ⟨j, ?_⟩)
          rw [List.getElem?_set, if_neg (fun e => h2 (by
            subst e
            rw [hia] at hj
            cases hj
            rfl))]
          exact hj
        · exact h3
    have hin : ∃ y ∈ T, y.1 = v := by
      unfold lowS at hT
      cases hi : st.its.findIdx? (fun x => decide (x.1 = v)) with
      | none =>
        rw [List.findIdx?_eq_none_iff] at hi
        have := hi x0 hx0
        simp [hk0] at this
      | some i =>
        rw [hi] at hT
        obtain ⟨hil, hk, _⟩ := List.findIdx?_eq_some_iff_getElem.1 hi
        have hia : st.its[i]? = some st.its[i] := List.getElem?_eq_getElem hil
        have hk : st.its[i].1 = v := by simpa using hk
        dsimp only at hT
        rw [getD_of hia] at hT
        obtain ⟨_, e', h2⟩ := h.i1 _ (List.getElem_mem hil)
        rw [hk, hs] at h2
        cases h2
        rw [if_pos hlt] at hT
        obtain ⟨T', t1, _, _, t4⟩ := lower_ok hI.hp hia hlt
        rw [hk, hT] at t1
        cases t1
        refine ⟨(v, add32 d b, st.its[i].2.2), (t4 _).2 ?_, rfl⟩
        rw [hk]
        exact List.mem_iff_getElem?.2 ⟨i, by rw [List.getElem?_set, if_pos rfl, if_pos hil]⟩
    refine ⟨⟨fun x hx => ?_, fun w r' hw => ?_, fun w hw => ?_, fun x hx => ?_, h.nd, fun p hp => ?_, fun w r' hw hws => ?_, ?_, fun w r' hw => ?_⟩, ?_⟩
    · rcases (hmem x).1 hx with ⟨h1, h2⟩ | ⟨h1, h2, _⟩
      · obtain ⟨g1, e', g2⟩ := h.i1 x h1
        exact ⟨g1, e', (set_ne h2).trans g2⟩
      · rw [h1, h2]
        exact ⟨hvD, e, set_eq _ _ _⟩
    · by_cases hwv : w = v
      · rw [hwv]
        exact .inr hin
      · replace hw := (set_ne (sp := st.sp) (r := (add32 d b, e)) hwv).symm.trans hw
        rcases h.i2 w r' hw with h1 | ⟨x, h1, h2⟩
        · exact .inl h1
        · exact .inr ⟨x, (hmem x).2 (.inl ⟨h1, fun e => hwv (h2.symm.trans e)⟩), h2⟩
    · obtain ⟨r', h1, h2⟩ := h.i3 w hw
      exact ⟨r', (set_ne (hDv hw)).trans h1, h2⟩
    · rcases (hmem x).1 hx with ⟨h1, _⟩ | ⟨_, h2, _⟩
      · exact h.i3' x h1
      · rw [h2]
        exact hge
    · rcases hp with hp | rfl
      · obtain ⟨h0, cu, eu, r', h1, h2, h3⟩ := h.i4 p hp
        by_cases hpv : p.2.2.1 = v
        · rw [hpv, hs] at h2
          cases h2
          exact ⟨h0, cu, eu, _, (set_ne (hDv h0)).trans h1, by rw [hpv]; exact set_eq _ _ _, by show add32 d b ≤ _; omega⟩
        · exact ⟨h0, cu, eu, r', (set_ne (hDv h0)).trans h1, (set_ne hpv).trans h2, h3⟩
      · exact ⟨ha, d, ea, _, (set_ne (hDv ha)).trans hsa, set_eq _ _ _, Nat.le_refl _⟩
    · by_cases hwv : w = v
      · subst hwv
        replace hw := (set_eq st.sp w (add32 d b, e)).symm.trans hw
        cases hw
        exact ⟨a, b, d, ea, hx, ha, hDv ha, (set_ne (hDv ha)).trans hsa, rfl, fun hw => absurd hw hvD⟩
      · replace hw := (set_ne (sp := st.sp) (r := (add32 d b, e)) hwv).symm.trans hw
        obtain ⟨u, bu, cu, eu, g1, g2, g3, g4, g5, g6⟩ := h.i5 w r' hw hws
        exact ⟨u, bu, cu, eu, g1, g2, g3, (set_ne (hDv g2)).trans g4, g5, g6⟩
    · exact (set_ne hsv).trans h.i6
    · by_cases hwv : w = v
      · subst hwv
        replace hw := (set_eq st.sp w (add32 d b, e)).symm.trans hw
        cases hw
        exact hle
      · replace hw := (set_ne (sp := st.sp) (r := (add32 d b, e)) hwv).symm.trans hw
        exact h.i7 w r' hw
    · exact (set_ne (hDv ha)).trans hsa
  · refine ⟨⟨h.i1, h.i2, h.i3, h.i3', h.nd, fun p hp => ?_, h.i5, h.i6, h.i7⟩, hsa⟩
    rcases hp with hp | rfl
    · exact h.i4 p hp
    · exact ⟨ha, d, ea, r, hsa, hs, by show r.1 ≤ add32 d b; omega⟩
theorem edges_keep (hsv : sv.length ≤ 400) (hnd : (es.map (·.1)).Nodup) (hbit : ∀ p ∈ es, p.2.2.2 < 4294967296) {a ea : Int} (ha : a ∈ D) : ∀ (l : List Int) (dn : Ed → Prop) (st st2 : Dj), DOk es s D d dn st → DInv sv st → st.came ≤ sv.length → st.sp a = some (d, ea) → (∀ e ∈ l, ∃ v b, (e, a, v, b) ∈ es ∧ v ∈ sv) → edgesS es d l st = some st2 → DOk es s D d (fun p => dn p ∨ (p ∈ es ∧ p.1 ∈ l)) st2 ∧ DInv sv st2 ∧ st2.came ≤ sv.length
  | [], dn, st, st2, h, hI, hc, hsa, _, hr => by
    rw [edgesS] at hr
    cases hr
    exact ⟨⟨h.i1, h.i2, h.i3, h.i3', h.nd, fun p hp => h.i4 p (hp.resolve_right fun h => by cases h.2), h.i5, h.i6, h.i7⟩, hI, hc⟩
  | e :: l, dn, st, st2, h, hI, hc, hsa, hl, hr => by
    obtain ⟨v, b, hx, hv⟩ := hl e List.mem_cons_self
    have hf : es.find? (fun p => decide (p.1 = e)) = some (e, a, v, b) := by
      have h1 := edF_some hnd hx
      unfold edF at h1
      cases hq : es.find? (fun p => decide (p.1 = e)) with
      | none =>
        have := List.find?_eq_none.1 hq _ hx
        simp at this
      | some y =>
        have g1 := List.mem_of_find?_eq_some hq
        have g2 : y.1 = e := by simpa using List.find?_some hq
        obtain ⟨i, hi, e1⟩ := List.getElem_of_mem g1
        obtain ⟨j, hj, e2⟩ := List.getElem_of_mem hx
        have : i = j := by
          have hp := List.pairwise_iff_getElem.1 hnd
          rcases Nat.lt_trichotomy i j with hlt | e | hlt
          · have := hp i j (by simpa using hi) (by simpa using hj) hlt
            simp only [List.getElem_map] at this
            rw [e1, e2] at this
            exact absurd g2 this
          · exact e
          · have := hp j i (by simpa using hj) (by simpa using hi) hlt
            simp only [List.getElem_map] at this
            rw [e1, e2] at this
            exact absurd g2.symm this
        subst this
        rw [← e1, e2]
    obtain ⟨s1, r1, hI1, hc1, _⟩ := relax_ok (d := d) hI hsv hf hv
    rw [edgesS, r1] at hr
    obtain ⟨k1, k2⟩ := relax_keep h hI ha hsa hx (hbit _ hx) hf r1
    obtain ⟨k3, k4, k5⟩ := edges_keep hsv hnd hbit ha l _ s1 st2 k1 hI1 hc1 k2 (fun e' he' => hl e' (List.mem_cons_of_mem _ he')) hr
    refine ⟨⟨k3.i1, k3.i2, k3.i3, k3.i3', k3.nd, fun p hp => k3.i4 p ?_, k3.i5, k3.i6, k3.i7⟩, k4, k5⟩
    rcases hp with hp | ⟨hp, hpe⟩
    · exact .inl (.inl hp)
    · rcases List.mem_cons.1 hpe with hpe | hpe
      · refine .inl (.inr ?_)
        obtain ⟨i, hi, e1⟩ := List.getElem_of_mem hp
        obtain ⟨j, hj, e2⟩ := List.getElem_of_mem hx
        have : i = j := by
          have hpw := List.pairwise_iff_getElem.1 hnd
          rcases Nat.lt_trichotomy i j with hlt | e | hlt
          · have := hpw i j (by simpa using hi) (by simpa using hj) hlt
            simp only [List.getElem_map] at this
            rw [e1, e2] at this
            exact absurd hpe this
          · exact e
          · have := hpw j i (by simpa using hj) (by simpa using hi) hlt
            simp only [List.getElem_map] at this
            rw [e1, e2] at this
            exact absurd hpe.symm this
        subst this
        rw [← e1, e2]
      · exact .inr ⟨hp, hpe⟩
theorem pop_keep {a : Itm} {r T : List Itm} {came : Nat} {sp : Int → Option (Nat × Int)} (h : DOk es s D d dn ⟨a :: r, came, sp⟩) (hI : IsHeap (a :: r)) (ht : ∀ x, x ∈ T ↔ (x ∈ a :: r ∧ x.1 ≠ a.1)) : DOk es s (D ++ [a.1]) a.2.1 dn ⟨T, came, sp⟩ ∧ ∃ ea, sp a.1 = some (a.2.1, ea) := by
  obtain ⟨haD, ea, hsa⟩ := h.i1 a List.mem_cons_self
  have hda := h.i3' a List.mem_cons_self
  refine ⟨⟨fun x hx => ?_, fun v r' hv => ?_, fun v hv => ?_, fun x hx => ?_, ?_, fun p hp => ?_, fun v r' hv hvs => ?_, h.i6, h.i7⟩, ea, hsa⟩
  · obtain ⟨h1, h2⟩ := (ht x).1 hx
    obtain ⟨g1, g2⟩ := h.i1 x h1
    exact ⟨fun hh => by
      rcases List.mem_append.1 hh with hh | hh
      · exact g1 hh
      · exact h2 (by simpa using hh), g2⟩
  · rcases h.i2 v r' hv with h1 | ⟨x, h1, h2⟩
    · exact .inl (List.mem_append_left _ h1)
    · by_cases hx : x.1 = a.1
      · exact .inl (List.mem_append_right _ (by rw [← h2, hx]; exact List.mem_singleton_self _))
      · exact .inr ⟨x, (ht x).2 ⟨h1, hx⟩, h2⟩
  · rcases List.mem_append.1 hv with hv | hv
    · obtain ⟨r', h1, h2⟩ := h.i3 v hv
      exact ⟨r', h1, Nat.le_trans h2 hda⟩
    · obtain rfl : v = a.1 := by simpa using hv
      exact ⟨_, hsa, Nat.le_refl _⟩
  · exact heap_root hI x ((ht x).1 hx).1
  · rw [List.nodup_append]
    exact ⟨h.nd, by simp, fun x hx y hy e => by
      obtain rfl : y = a.1 := by simpa using hy
      exact haD (e ▸ hx)⟩
  · obtain ⟨h0, rest⟩ := h.i4 p hp
    exact ⟨List.mem_append_left _ h0, rest⟩
  · obtain ⟨u, b, cu, eu, g1, g2, g3, g4, g5, g6⟩ := h.i5 v r' hv hvs
    refine ⟨u, b, cu, eu, g1, List.mem_append_left _ g2, g3, g4, g5, fun hvD => ?_⟩
    rw [List.idxOf_append, if_pos g2]
    by_cases hv2 : v ∈ D
    · rw [List.idxOf_append, if_pos hv2]
      exact g6 hv2
    · rw [List.idxOf_append, if_neg hv2]
      have := List.idxOf_lt_length_of_mem g2
      omega
structure Spots (es : List Ed) (s : Int) (sv : List Int) (Rt : Int → Option (Nat × Int)) : Prop where
  src : Rt s = some (0, 0)
  q : ∀ v r, Rt v = some r → r.1 ≤ 2139095040
  last : ∃ D : List Int, D.Nodup ∧ (∀ v ∈ D, v ∈ sv) ∧ (∀ v, Rt v ≠ none → v ∈ D) ∧ ∀ v r, Rt v = some r → v ≠ s → ∃ u b cu eu, (r.2, u, v, b) ∈ es ∧ u ≠ v ∧ u ∈ D ∧ Rt u = some (cu, eu) ∧ r.1 = add32 cu b ∧ D.idxOf u < D.idxOf v
  quiet : ∀ p ∈ es, ∀ c, Rt p.2.1 = some c → ∃ r, Rt p.2.2.1 = some r ∧ r.1 ≤ add32 c.1 p.2.2.2
  dom : ∀ v, Rt v ≠ none → v ∈ sv
theorem dj_spots (hsv : sv.length ≤ 400) (hnd : (es.map (·.1)).Nodup) (hbit : ∀ p ∈ es, p.2.2.2 < 4294967296) (hes : ∀ p ∈ es, p.2.2.1 ∈ sv) : ∀ (k : Nat) (D : List Int) (d : Nat) (st : Dj) (Rt : Int → Option (Nat × Int)), DOk es s D d (fun p => p ∈ es ∧ p.2.1 ∈ D) st → DInv sv st → st.came ≤ sv.length → djS es (outL es) k st = some Rt → Spots es s sv Rt
  | 0, _, _, _, _, _, _, _, hr => by cases hr
  | k + 1, D, d, ⟨its, came, sp⟩, Rt, h, hI, hc, hr => by
    have hdom : ∀ v, sp v ≠ none → v ∈ sv := fun v hv => by
      obtain ⟨K, _, k2, k3, _⟩ := hI.kk
      exact k3 v ((k2 v).1 hv)
    cases its with
    | nil =>
      rw [djS] at hr
      cases hr
      have hD : ∀ v, sp v ≠ none → v ∈ D := fun v hv => by
        obtain ⟨r, hr⟩ := Option.ne_none_iff_exists'.1 hv
        rcases h.i2 v r hr with h1 | ⟨x, hx, _⟩
        · exact h1
        · cases hx
      refine ⟨h.i6, h.i7, ⟨D, h.nd, fun v hv => hdom v ?_, hD, fun v r hv hvs => ?_⟩, fun p hp c hc => ?_, hdom⟩
      · obtain ⟨r, hr, _⟩ := h.i3 v hv
        have hr : sp v = some r := hr
        rw [hr]
        simp
      · obtain ⟨u, b, cu, eu, g1, g2, g3, g4, g5, g6⟩ := h.i5 v r hv hvs
        exact ⟨u, b, cu, eu, g1, g3, g2, g4, g5, g6 (hD v (by
          have hv : sp v = some r := hv
          rw [hv]
          simp))⟩
      · have hc : sp p.2.1 = some c := hc
        obtain ⟨_, cu, eu, r, g1, g2, g3⟩ := h.i4 p ⟨hp, hD _ (by rw [hc]; simp)⟩
        have g1 : sp p.2.1 = some (cu, eu) := g1
        rw [hc] at g1
        cases g1
        exact ⟨r, g2, g3⟩
    | cons a r =>
      obtain ⟨f, hfit⟩ := hI.ft
      obtain ⟨K, k1, k2, k3, k4, k5, k6⟩ := hI.kk
      have kl := nodup_sub k1 k3
      have hlen : (a :: r).length ≤ K.length := k5
      rw [List.length_cons] at hlen
      obtain ⟨T, t1, t2, t3, t4⟩ := pop_ok hI.hp hfit (show (a :: r)[0]? = some a from rfl) (by show (a :: r).length < _; rw [List.length_cons]; omega)
      have hTI : DInv sv ⟨T, came, sp⟩ := ⟨t2, drop_fits hfit rfl t1, K, k1, k2, k3, k4, by
        have t5 : T.length + 1 = (a :: r).length := t3
        rw [List.length_cons] at t5
        show T.length ≤ _
        omega, fun y hy => k6 y ((t4 y).1 hy).1⟩
      obtain ⟨hT, ea, hsa⟩ := pop_keep h hI.hp t4
      rw [djS] at hr
      dsimp only at hr
      rw [if_pos (by omega)] at hr
      have t1 : dropS (r.length + 2) (a :: r) = some T := t1
      rw [t1] at hr
      have hr : (edgesS es a.2.1 (outL es a.1) ⟨T, came, sp⟩).bind (djS es (outL es) k) = some Rt := hr
      cases he : edgesS es a.2.1 (outL es a.1) ⟨T, came, sp⟩ with
      | none => rw [he] at hr; cases hr
      | some s2 =>
        rw [he] at hr
        have hr : djS es (outL es) k s2 = some Rt := hr
        have hout : ∀ e ∈ outL es a.1, ∃ v b, (e, a.1, v, b) ∈ es ∧ v ∈ sv := fun e he => by
          unfold outL at he
          obtain ⟨⟨e', u, v, b⟩, hp, rfl⟩ := List.mem_map.1 he
          obtain ⟨h1, h2⟩ := List.mem_filter.1 hp
          obtain rfl : u = a.1 := by simpa using h2
          exact ⟨v, b, h1, hes _ h1⟩
        obtain ⟨g1, g2, g3⟩ := edges_keep hsv hnd hbit (List.mem_append_right D (List.mem_singleton_self a.1)) (outL es a.1) _ _ s2 hT hTI hc hsa hout he
        refine dj_spots hsv hnd hbit hes k (D ++ [a.1]) a.2.1 s2 Rt ⟨g1.i1, g1.i2, g1.i3, g1.i3', g1.nd, fun p hp => g1.i4 p ?_, g1.i5, g1.i6, g1.i7⟩ g2 g3 hr
        rcases List.mem_append.1 hp.2 with hp2 | hp2
        · exact .inl ⟨hp.1, hp2⟩
        · refine .inr ⟨hp.1, ?_⟩
          have hp2 : p.2.1 = a.1 := by simpa using hp2
          unfold outL
          exact List.mem_map.2 ⟨p, List.mem_filter.2 ⟨hp.1, by simpa using hp2⟩, rfl⟩
theorem build_spots {s : Int} (hsv : sv.length ≤ 400) (hz : tcode sv es s = 0) (hbit : ∀ p ∈ es, p.2.2.2 < 4294967296) {k : Nat} {Rt : Int → Option (Nat × Int)} (hr : djS es (outL es) k (dj1 s) = some Rt) : Spots es s sv Rt := by
  obtain ⟨h1, h2, h3, h4, h5, h6⟩ := tcode_zero hz
  have hpos := List.length_pos_of_mem h5
  refine dj_spots hsv h2 hbit (fun p hp => (h4 p hp).2) k [] 0 (dj1 s) Rt ?_ ?_ (by show 1 ≤ _; omega) hr
  · refine ⟨fun x hx => ?_, fun v r hv => ?_, fun v hv => (by cases hv), fun x hx => Nat.zero_le _, List.nodup_nil, fun p hp => (by cases hp.2), fun v r hv hvs => ?_, ?_, fun v r hv => ?_⟩
    · have hx : x = (s, 0, 1) := by simpa [dj1] using hx
      subst hx
      exact ⟨by simp, 0, by simp [dj1, setP]⟩
    · by_cases hvs : v = s
      · exact .inr ⟨(s, 0, 1), by simp [dj1], hvs.symm⟩
      · simp [dj1, setP, hvs] at hv
    · simp [dj1, setP, hvs] at hv
    · simp [dj1, setP]
    · by_cases hvs : v = s
      · simp [dj1, setP, hvs] at hv
        rw [← hv]
        exact Nat.zero_le _
      · simp [dj1, setP, hvs] at hv
  · exact ⟨fun j hj hjl => by simp [dj1] at hjl; omega, ⟨_, Fits.nil.push (x := (s, 0, 1)) rfl⟩, [s], by simp, fun v => by
      unfold dj1 setP
      dsimp only
      by_cases hv : v = s <;> simp [hv], fun v hv => by rw [List.mem_singleton] at hv; exact hv ▸ h5, rfl, by simp [dj1], fun x hx => by simp [dj1] at hx; simp [hx]⟩
end
end Go.Proofs.Ytgihncjllelonaa.Tb
