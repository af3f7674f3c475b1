/- Plain laws on what Of and Order answer: each vertex in one component, the heads rise, an arc between two components leads on in the order. -/
import Derived.Test.YthlmffjafeodlaaRing
import Derived.Test.YthlmffjafeodlaaLw5
namespace Go.Proofs.Ythlmffjafeodlaa.Tj
open Go.Proofs.Ythlmffjafeodlaa.Sl Go.Proofs.Ythlmffjafeodlaa.Lw
set_option linter.unusedVariables false

/-- Ahead of the first place of c stands each smaller number. -/
theorem fo_first : ∀ (l : List Nat) (k m : Nat), fo l k = some m → ∀ v c, v < l.length → l.getD v 0 = c → ∀ d, k ≤ d → d < c → ∃ u, u < v ∧ l.getD u 0 = d
  | [], _, _, _, v, _, hv, _ => by simp at hv
  | a :: r, k, m, h, v, c, hv, hc => by
    intro d hk hd
    rw [fo] at h
    cases v with
    | zero =>
      have : a = c := by simpa using hc
      subst this
      split at h
      · omega
      · split at h
        · omega
        · cases h
    | succ v =>
      have hc' : r.getD v 0 = c := by simpa using hc
      have hv' : v < r.length := by simpa using hv
      split at h
      · obtain ⟨u, hu, he⟩ := fo_first r k m h v c hv' hc' d hk hd
        exact ⟨u + 1, by omega, by simpa using he⟩
      · split at h
        · rename_i hak
          subst hak
          rcases Nat.eq_or_lt_of_le hk with he | hlt
          · exact ⟨0, by omega, by simpa using he⟩
          · obtain ⟨u, hu, he⟩ := fo_first r _ m h v c hv' hc' d hlt hd
            exact ⟨u + 1, by omega, by simpa using he⟩
        · cases h

theorem mem_grpZ : ∀ (comp : List Nat) (sl : List Int) (c : Nat) (x : Int), comp.length = sl.length → (x ∈ grpZ comp sl c ↔ ∃ v, v < comp.length ∧ comp.getD v 0 = c ∧ sl.getD v 0 = x)
  | [], [], c, x, _ => by simp [grpZ]
  | [], _ :: _, _, _, h => by simp at h
  | _ :: _, [], _, _, h => by simp at h
  | a :: r, y :: s, c, x, h => by
    have ih := mem_grpZ r s c x (by simpa using h)
    have e : grpZ (a :: r) (y :: s) c = if a = c then y :: grpZ r s c else grpZ r s c := by
      unfold grpZ
      rw [List.zip_cons_cons]
      by_cases hac : a = c
      · rw [if_pos hac, List.filter_cons_of_pos (by simpa using hac), List.map_cons]
      · rw [if_neg hac, List.filter_cons_of_neg (by simpa using hac)]
    rw [e]
    constructor
    · intro hx
      split at hx
      · rename_i hac
        rcases List.mem_cons.1 hx with rfl | hx
        · exact ⟨0, by simp, by simpa using hac, by simp⟩
        · obtain ⟨v, h1, h2, h3⟩ := ih.1 hx
          exact ⟨v + 1, by simpa using h1, by simpa using h2, by simpa using h3⟩
      · obtain ⟨v, h1, h2, h3⟩ := ih.1 hx
        exact ⟨v + 1, by simpa using h1, by simpa using h2, by simpa using h3⟩
    · rintro ⟨v, h1, h2, h3⟩
      cases v with
      | zero =>
        have hac : a = c := by simpa using h2
        have hyx : y = x := by simpa using h3
        rw [if_pos hac, hyx]
        exact List.mem_cons_self
      | succ v =>
        have := ih.2 ⟨v, by simpa using h1, by simpa using h2, by simpa using h3⟩
        split
        · exact List.mem_cons.2 (.inr this)
        · exact this

theorem grp_sum : ∀ (comp : List Nat) (sl : List Int) (m : Nat), comp.length = sl.length → (∀ c ∈ comp, c < m) → ((ofL comp sl m).map List.length).sum = comp.length
  | [], [], m, _, _ => by
    have hz : grpZ [] [] = fun _ => [] := by
      funext c
      simp [grpZ]
    have h0 : ∀ n, (((List.range n).map fun _ : Nat => ([] : List Int)).map List.length).sum = 0 := by
      intro n
      induction n with
      | zero => rfl
      | succ n ih => rw [List.range_succ, List.map_append, List.map_append, List.sum_append, ih]; rfl
    unfold ofL
    rw [hz]
    exact h0 m
  | [], _ :: _, _, h, _ => by simp at h
  | _ :: _, [], _, h, _ => by simp at h
  | a :: r, y :: s, m, h, hm => by
    have ih := grp_sum r s m (by simpa using h) fun c hc => hm c (List.mem_cons.2 (.inr hc))
    have ha := hm a List.mem_cons_self
    have e : ∀ c, (grpZ (a :: r) (y :: s) c).length = (grpZ r s c).length + if a = c then 1 else 0 := by
      intro c
      unfold grpZ
      rw [List.zip_cons_cons]
      by_cases hac : a = c
      · rw [if_pos hac, List.filter_cons_of_pos (by simpa using hac), List.map_cons, List.length_cons]
      · rw [if_neg hac, List.filter_cons_of_neg (by simpa using hac)]; rfl
    have e2 : ∀ n, ((List.range n).map fun c => (grpZ (a :: r) (y :: s) c).length).sum = ((List.range n).map fun c => (grpZ r s c).length).sum + if a < n then 1 else 0 := by
      intro n
      induction n with
      | zero => simp
      | succ n ihn =>
        rw [List.range_succ, List.map_append, List.sum_append, List.map_append, List.sum_append, ihn]
        simp only [List.map_cons, List.map_nil, List.sum_cons, List.sum_nil, e]
        split <;> split <;> split <;> omega
    have e3 := e2 m
    unfold ofL at ih ⊢
    rw [List.map_map] at ih ⊢
    have e4 : (List.length ∘ grpZ (a :: r) (y :: s)) = fun c => (grpZ (a :: r) (y :: s) c).length := rfl
    have e5 : (List.length ∘ grpZ r s) = fun c => (grpZ r s c).length := rfl
    rw [e4, e3, if_pos ha]
    rw [e5] at ih
    rw [ih, List.length_cons]

theorem nodup_idx {F : List Nat} (h : F.Nodup) {i j : Nat} (hi : i < F.length) (hj : j < F.length) (he : F[i] = F[j]) : i = j := by
  rw [List.nodup_iff_pairwise_ne, List.pairwise_iff_getElem] at h
  rcases Nat.lt_trichotomy i j with h1 | h1 | h1
  · exact absurd he (h i j hi hj h1)
  · exact h1
  · exact absurd he.symm (h j i hj hi h1)

/-- The last place of h, 0 if there is none. -/
def lastAt (ts : List Int) (h : Int) : Nat → Nat
  | 0 => 0
  | k + 1 => if ts.getD k 0 = h then k else lastAt ts h k

theorem lastAt_unique {ts : List Int} {h : Int} {k : Nat} (hk : ts.getD k 0 = h) : ∀ n, k < n → (∀ j, j < n → ts.getD j 0 = h → j = k) → lastAt ts h n = k
  | 0, h0, _ => by omega
  | n + 1, h0, hu => by
    rw [lastAt]
    split
    · rename_i he
      exact hu n (by omega) he
    · rename_i he
      have : k ≠ n := fun e => he (e ▸ hk)
      exact lastAt_unique hk n (by omega) fun j hj => hu j (by omega)

/-- What SccOrders looks at. -/
structure Fine (L : List Int) (R : List (Int × Int)) (ls : List (List Int)) (ts : List Int) : Prop where
  len : ts.length = ls.length
  ne : ∀ i, (h : i < ls.length) → ls[i] ≠ []
  inc : ∀ i, (h : i + 1 < ls.length) → (ls[i]'(by omega)).headD 0 < (ls[i + 1]).headD 0
  sum : (ls.map List.length).sum = L.length
  vs : ∀ v ∈ L, ∃ c, c < ls.length ∧ compI ls v = (c : Int)
  arcs : ∀ p ∈ R, ∃ cu cv, ∃ hu : cu < ls.length, ∃ hv : cv < ls.length, compI ls p.1 = (cu : Int) ∧ compI ls p.2 = (cv : Int) ∧ (cu ≠ cv → lastAt ts ((ls[cu]).headD 0) ts.length < lastAt ts ((ls[cv]).headD 0) ts.length)

theorem order_plain (L : List Int) (R : List (Int × Int)) (hL : L.length ≤ 60) (hR : R.length ≤ 240) : ∃ code ls ts, ofS L R (sorted L) 1000 = some (code, ls) ∧ orderS L R (sorted L) 1000 = some (code, ts) ∧ (code ≠ 0 → ls = []) ∧ (code ≠ 0 → ts = []) ∧ (code = 0 → Fine L R ls ts) ∧ ls.length ≤ 60 ∧ (∀ r ∈ ls, r.length ≤ 60) := by
  have hl := sorted_length L
  have hs := sorted_rising L
  obtain ⟨ls, h1, h2, h3⟩ := ofS_ends (l := L) (arcs := R) (k := 1000) hl hs (by omega) (by omega)
  obtain ⟨ts, h4, h5, h6⟩ := orderS_ends (l := L) (arcs := R) (k := 1000) hl hs (by omega) (by omega) (by omega)
  have hsm := of_small h2 h3
  refine ⟨_, ls, ts, h1, h4, h2, h5, fun hc => ?_, Nat.le_trans hsm.1 hL, fun r hr => Nat.le_trans (hsm.2 r hr) hL⟩
  obtain ⟨hd, hg⟩ := codeV_zero hc
  have hlt := lt_of_nodup hs hd
  have hp : ∀ x, x ∈ sorted L ↔ x ∈ L := fun x => (List.mergeSort_perm L _).mem_iff
  obtain ⟨comp, m, hco, rfl⟩ := h3 hc
  obtain ⟨comp', m', F, hco', hF, rfl⟩ := h6 hc
  obtain ⟨rfl, rfl⟩ := hco'.unique hco
  have hcl := hco.1
  have hcm := (fo_lt _ _ _ hco.2.1).2
  have hlen : (ofL comp' (sorted L) m').length = m' := by simp [ofL]
  have hat : ∀ c, (h : c < (ofL comp' (sorted L) m').length) → (ofL comp' (sorted L) m')[c] = grpZ comp' (sorted L) c := fun c h => by simp [ofL]
  have hmem : ∀ c, c < m' → ∃ v, v < comp'.length ∧ comp'.getD v 0 = c ∧ (∀ u, u < v → comp'.getD u 0 ≠ c) ∧ (grpZ comp' (sorted L) c).headD 0 = (sorted L).getD v 0 := by
    intro c hc
    obtain ⟨v, a1, a2, a3⟩ := first_occ c comp' (fo_mem comp' 0 m' hco.2.1 c (by omega) hc)
    exact ⟨v, a1, a2, a3, grpZ_head c comp' (sorted L) v (by omega) a1 a2 a3⟩
  have hsl : ∀ i j, i < j → j < (sorted L).length → (sorted L).getD i 0 < (sorted L).getD j 0 := by
    intro i j hij hj
    rw [List.getD_eq_getElem?_getD, List.getD_eq_getElem?_getD, List.getElem?_eq_getElem hj, List.getElem?_eq_getElem (by omega)]
    exact List.pairwise_iff_getElem.1 hlt i j (by omega) hj hij
  -- heads rise
  have hhead : ∀ c d, c < d → d < m' → (grpZ comp' (sorted L) c).headD 0 < (grpZ comp' (sorted L) d).headD 0 := by
    intro c d hcd hdm
    obtain ⟨v, a1, a2, a3, a4⟩ := hmem c (by omega)
    obtain ⟨w, b1, b2, b3, b4⟩ := hmem d hdm
    obtain ⟨u, hu, he⟩ := fo_first comp' 0 m' hco.2.1 w d b1 b2 c (by omega) hcd
    have hvu : v ≤ u := by
      rcases Nat.lt_or_ge u v with h | h
      · exact absurd he (a3 u h)
      · exact h
    rw [a4, b4]
    exact hsl v w (by omega) (by omega)
  have hinj : ∀ c d, c < m' → d < m' → (grpZ comp' (sorted L) c).headD 0 = (grpZ comp' (sorted L) d).headD 0 → c = d := by
    intro c d hc hd he
    rcases Nat.lt_trichotomy c d with h | h | h
    · have := hhead c d h hd; omega
    · exact h
    · have := hhead d c h hc; omega
  -- the component of a vertex
  have hcomp : ∀ x, x ∈ sorted L → ∃ i, i < comp'.length ∧ place (sorted L) x = i ∧ comp'.getD i 0 < m' ∧ compI (ofL comp' (sorted L) m') x = ((comp'.getD i 0 : Nat) : Int) := by
    intro x hx
    obtain ⟨i, hi, he, hpl⟩ := mem_place hlt hx
    have hic : i < comp'.length := by omega
    have hcm' : comp'.getD i 0 < m' := by
      rw [List.getD_eq_getElem?_getD, List.getElem?_eq_getElem hic]
      exact hcm _ (List.getElem_mem hic)
    have hxi : (sorted L).getD i 0 = x := by rw [List.getD_eq_getElem?_getD, List.getElem?_eq_getElem hi, Option.getD_some, he]
    refine ⟨i, hic, hpl, hcm', compI_at (j := comp'.getD i 0) (by rw [hlen]; exact hcm') ?_ ?_⟩
    · intro c h hci
      rw [hat c h, Bool.eq_false_iff]
      intro hcon
      obtain ⟨v, b1, b2, b3⟩ := (mem_grpZ comp' (sorted L) c x (by omega)).1 (by simpa using hcon)
      have hvi : v = i := by
        rcases Nat.lt_trichotomy v i with h | h | h
        · have := hsl v i h hi; omega
        · exact h
        · have := hsl i v h (by omega); omega
      subst hvi
      omega
    · rw [hat _ (by rw [hlen]; exact hcm')]
      have := (mem_grpZ comp' (sorted L) (comp'.getD i 0) x (by omega)).2 ⟨i, hic, rfl, hxi⟩
      simpa using this
  -- positions in the order
  obtain ⟨hF1, hF2, hF3⟩ := hF
  have hFm : ∀ c ∈ F, c < m' := by
    intro c hcF
    obtain ⟨P, Q, rfl⟩ := List.append_of_mem hcF
    exact (hF1 P c Q rfl).1
  have hFn : F.Nodup := by
    rw [List.nodup_iff_pairwise_ne, List.pairwise_iff_getElem]
    intro i j hi hj hij he
    have hd2 : F = F.take j ++ F[j] :: F.drop (j + 1) := by
      rw [← List.drop_eq_getElem_cons hj, List.take_append_drop]
    have := (hF1 _ _ _ hd2).2.1
    apply this
    rw [← he]
    exact List.mem_take_iff_getElem.2 ⟨i, by omega, rfl⟩
  have hposn : ∀ c, c < m' → ∃ k, ∃ hk : k < F.length, F[k] = c ∧ lastAt (F.map (headZ comp' (sorted L))) ((grpZ comp' (sorted L) c).headD 0) (F.map (headZ comp' (sorted L))).length = k := by
    intro c hc
    obtain ⟨k, hk, he⟩ := List.getElem_of_mem (hF2 c hc)
    have hget : ∀ j, (hj : j < F.length) → (F.map (headZ comp' (sorted L))).getD j 0 = (grpZ comp' (sorted L) F[j]).headD 0 := by
      intro j hj
      rw [List.getD_eq_getElem?_getD, List.getElem?_map, List.getElem?_eq_getElem hj]
      rfl
    refine ⟨k, hk, he, lastAt_unique (by rw [hget k hk, he]) _ (by rw [List.length_map]; exact hk) fun j hj hh => ?_⟩
    rw [List.length_map] at hj
    rw [hget j hj] at hh
    have := hinj _ _ (hFm _ (List.getElem_mem hj)) hc hh
    exact nodup_idx hFn hj hk (this.trans he.symm)
  refine ⟨by rw [hlen, List.length_map, hF3], fun i h => ?_, fun i h => ?_, ?_, fun v hv => ?_, fun p hpm => ?_⟩
  · rw [hat i h]
    rw [hlen] at h
    obtain ⟨v, a1, a2, a3, a4⟩ := hmem i h
    have := (mem_grpZ comp' (sorted L) i _ (by omega)).2 ⟨v, a1, a2, rfl⟩
    intro he
    rw [he] at this
    simp at this
  · rw [hat i (by omega), hat (i + 1) h]
    exact hhead i (i + 1) (by omega) (by rw [← hlen]; exact h)
  · rw [grp_sum comp' _ m' (by omega) hcm, hcl]
  · obtain ⟨i, _, _, h1, h2⟩ := hcomp v ((hp v).2 hv)
    exact ⟨_, by rw [hlen]; exact h1, h2⟩
  · have hgp := good_iff.1 hg p hpm
    obtain ⟨i, a1, a2, a3, a4⟩ := hcomp p.1 (by simpa using hgp.1)
    obtain ⟨j, b1, b2, b3, b4⟩ := hcomp p.2 (by simpa using hgp.2)
    refine ⟨_, _, by rw [hlen]; exact a3, by rw [hlen]; exact b3, a4, b4, fun hne => ?_⟩
    rw [hat _ (by rw [hlen]; exact a3), hat _ (by rw [hlen]; exact b3)]
    obtain ⟨ku, hku, eu, lu⟩ := hposn _ a3
    obtain ⟨kv, hkv, ev, lv⟩ := hposn _ b3
    rw [lu, lv]
    have hd2 : F = F.take kv ++ F[kv] :: F.drop (kv + 1) := by
      rw [← List.drop_eq_getElem_cons hkv, List.take_append_drop]
    have hno := (hF1 _ _ _ hd2).2.2.1
    rw [ev] at hno
    have harc : Arc L.length (PE (sorted L) R) comp' (comp'.getD i 0) (comp'.getD j 0) := ⟨fun e => hne e.symm, i, j, by omega, ⟨p, hpm, a2, b2⟩, rfl, rfl⟩
    have hin : comp'.getD i 0 ∈ F.take kv := by
      rcases Classical.em (comp'.getD i 0 ∈ F.take kv) with h | h
      · exact h
      · exact absurd harc (hno _ a3 h)
    obtain ⟨q, hq, he⟩ := List.mem_take_iff_getElem.1 hin
    have : q = ku := nodup_idx hFn (by omega) hku (he.trans eu.symm)
    omega

end Go.Proofs.Ythlmffjafeodlaa.Tj
