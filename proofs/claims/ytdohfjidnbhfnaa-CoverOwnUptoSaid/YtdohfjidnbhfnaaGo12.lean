/- scc.Order's plain model: what the first part makes (heads, arcs into, arcs out). -/
import Derived.Test.YtdohfjidnbhfnaaGo11
import Derived.Test.YtdohfjidnbhfnaaGo4
namespace Go.Proofs.Ytdohfjidnbhfnaa.Tj
set_option linter.unusedSimpArgs false
set_option linter.unusedVariables false

def cntF (outs : List (List Nat)) (U : List Nat) (x : Nat) : Nat := (U.map fun d => (outs.getD d []).count x).sum

theorem fo_lt : ∀ (l : List Nat) (m nx : Nat), fo l m = some nx → m ≤ nx ∧ ∀ c ∈ l, c < nx
  | [], m, nx, h => by cases h; exact ⟨Nat.le_refl _, by simp⟩
  | c :: r, m, nx, h => by
    rw [fo] at h
    split at h
    · have := fo_lt r m nx h
      exact ⟨this.1, fun d hd => by
        rcases List.mem_cons.1 hd with rfl | hd
        · omega
        · exact this.2 d hd⟩
    · split at h
      · have := fo_lt r (m + 1) nx h
        exact ⟨by omega, fun d hd => by
          rcases List.mem_cons.1 hd with rfl | hd
          · omega
          · exact this.2 d hd⟩
      · cases h

theorem getD_mem {l : List Nat} {i : Nat} (h : i < l.length) : l.getD i 0 ∈ l := by
  rw [List.getD_eq_getElem?_getD, List.getElem?_eq_getElem h]
  exact List.getElem_mem h

theorem rowO_ok {comp : List Nat} {m c B : Nat} (hc : c < m) (hB : B ≤ 1000000) (hm : ∀ x ∈ comp, x < m) : ∀ (row into : List Nat) (outs : List (List Nat)), (∀ w ∈ row, w < comp.length) → into.length = m → outs.length = m →
    (∀ x, into.getD x 0 + row.length ≤ B) → (∀ d, (outs.getD d []).length + row.length ≤ B) → (∀ x, into.getD x 0 = cntF outs (List.range m) x) →
    ∃ I O, rowO comp c row into outs = some (I, O) ∧ (∀ x, I.getD x 0 ≤ into.getD x 0 + row.length) ∧ (∀ d, (O.getD d []).length ≤ (outs.getD d []).length + row.length) ∧ (∀ x, I.getD x 0 = cntF O (List.range m) x) ∧
      ∀ d x, x ∈ O.getD d [] ↔ x ∈ outs.getD d [] ∨ (d = c ∧ x ≠ c ∧ ∃ w ∈ row, comp.getD w 0 = x)
  | [], into, outs, _, _, _, _, _, hj => ⟨into, outs, rfl, fun x => by simp, fun d => by simp, hj, fun d x => by simp⟩
  | w :: row, into, outs, hw, hi, ho, hb1, hb2, hj => by
    have hwl := hw w List.mem_cons_self
    have hcx : comp[w]? = some (comp.getD w 0) := by rw [List.getD_eq_getElem?_getD, List.getElem?_eq_getElem hwl]; rfl
    obtain ⟨cx, hcx'⟩ : ∃ cx, comp.getD w 0 = cx := ⟨_, rfl⟩
    have hcm : cx < m := hcx' ▸ hm _ (getD_mem hwl)
    rw [hcx'] at hcx
    rw [rowO, hcx]
    dsimp only
    have hb1' := hb1
    have hb2' := hb2
    simp only [List.length_cons] at hb1' hb2'
    by_cases he : cx = c
    · rw [if_pos he]
      obtain ⟨I, O, g1, g2, g3, g4, g5⟩ := rowO_ok hc hB hm row into outs (fun x hx => hw x (List.mem_cons.2 (.inr hx))) hi ho (fun x => by have := hb1' x; omega) (fun d => by have := hb2' d; omega) hj
      refine ⟨I, O, g1, fun x => by have := g2 x; rw [List.length_cons]; omega, fun d => by have := g3 d; rw [List.length_cons]; omega, g4, fun d x => ?_⟩
      rw [g5]
      constructor
      · rintro (h | ⟨h1, h2, a, h3, h4⟩)
        · exact .inl h
        · exact .inr ⟨h1, h2, a, List.mem_cons.2 (.inr h3), h4⟩
      · rintro (h | ⟨h1, h2, a, h3, h4⟩)
        · exact .inl h
        · rcases List.mem_cons.1 h3 with rfl | h3
          · exact absurd (h4.symm.trans (hcx'.trans he)) h2
          · exact .inr ⟨h1, h2, a, h3, h4⟩
    · have hc1 := hb1' cx
      have hc2 := hb2' c
      rw [if_neg he, if_pos ⟨⟨by omega, by omega⟩, by omega, by omega⟩]
      have hs1 : ∀ x, (into.set cx (into.getD cx 0 + 1)).getD x 0 = if x = cx then into.getD cx 0 + 1 else into.getD x 0 := fun x => getD_set into cx x _ _ (by omega)
      have hs2 : ∀ d, (outs.set c (outs.getD c [] ++ [cx])).getD d [] = if d = c then outs.getD c [] ++ [cx] else outs.getD d [] := fun d => getD_set outs c d _ _ (by omega)
      obtain ⟨I, O, g1, g2, g3, g4, g5⟩ := rowO_ok hc hB hm row (into.set cx (into.getD cx 0 + 1)) (outs.set c (outs.getD c [] ++ [cx])) (fun x hx => hw x (List.mem_cons.2 (.inr hx))) (by simpa using hi) (by simpa using ho)
        (fun x => by
          rw [hs1]
          have := hb1' x
          split
          · omega
          · omega) (fun d => by
          rw [hs2]
          have := hb2' d
          split
          · rename_i hd
            rw [List.length_append, List.length_singleton]
            omega
          · omega) (fun x => by
          rw [hs1]
          have hsum : cntF (outs.set c (outs.getD c [] ++ [cx])) (List.range m) x = cntF outs (List.range m) x + (if x = cx then 1 else 0) := by
            refine sum_range_one _ _ c _ m hc ?_ ?_
            · rw [hs2, if_pos rfl, List.count_append]
              congr 1
              rw [List.count_singleton]
              by_cases hx : x = cx
              · simp [hx]
              · rw [if_neg hx, if_neg (by simpa using fun h => hx h.symm)]
            · intro d hd
              rw [hs2, if_neg hd]
          rw [hsum, ← hj]
          split
          · rename_i hx; rw [hx]
          · rfl)
      refine ⟨I, O, g1, fun x => ?_, fun d => ?_, g4, fun d x => ?_⟩
      · have := g2 x
        rw [hs1] at this
        rw [List.length_cons]
        split at this
        · rename_i hx; rw [hx] at this ⊢; omega
        · omega
      · have := g3 d
        rw [hs2] at this
        rw [List.length_cons]
        split at this
        · rename_i hd
          rw [List.length_append, List.length_singleton] at this
          rw [hd] at this ⊢
          omega
        · omega
      · rw [g5, hs2]
        by_cases hd : d = c
        · rw [if_pos hd, List.mem_append, List.mem_singleton, hd]
          constructor
          · rintro ((h | rfl) | ⟨h1, h2, a, h3, h4⟩)
            · exact .inl h
            · exact .inr ⟨rfl, he, w, List.mem_cons_self, hcx'⟩
            · exact .inr ⟨rfl, h2, a, List.mem_cons.2 (.inr h3), h4⟩
          · rintro (h | ⟨h1, h2, a, h3, h4⟩)
            · exact .inl (.inl h)
            · rcases List.mem_cons.1 h3 with rfl | h3
              · exact .inl (.inr (h4.symm.trans hcx'))
              · exact .inr ⟨rfl, h2, a, h3, h4⟩
        · rw [if_neg hd]
          constructor
          · rintro (h | ⟨h1, _⟩)
            · exact .inl h
            · exact absurd h1 hd
          · rintro (h | ⟨h1, _⟩)
            · exact .inl h
            · exact absurd h1 hd

def rowsM (out : List (List Nat)) (k : Nat) : Nat := ((List.range k).map fun v => (out.getD v []).length).sum
theorem rowsM_succ (out : List (List Nat)) (k : Nat) : rowsM out (k + 1) = rowsM out k + (out.getD k []).length := by
  simp [rowsM, List.range_succ]

theorem vertsO_ok {comp : List Nat} {sl : List Int} {out : List (List Nat)} {m n B : Nat} (hB : B ≤ 1000000) (hm : ∀ x ∈ comp, x < m) (hcl : comp.length = n) (hsl : sl.length = n) (hol : out.length = n) (hE : ∀ u v, Eg out u v → v < n) :
    ∀ (k : Nat) (head : List Int) (into : List Nat) (outs : List (List Nat)), k ≤ n → head.length = m → into.length = m → outs.length = m → (∀ x, into.getD x 0 + rowsM out k ≤ B) → (∀ d, (outs.getD d []).length + rowsM out k ≤ B) →
    (∀ x, into.getD x 0 = cntF outs (List.range m) x) → (∀ d x, x ∈ outs.getD d [] ↔ x ≠ d ∧ ∃ v w, k ≤ v ∧ v < n ∧ Eg out v w ∧ comp.getD v 0 = d ∧ comp.getD w 0 = x) →
    (∀ v, k ≤ v → v < n → (∀ u, k ≤ u → u < v → comp.getD u 0 ≠ comp.getD v 0) → head.getD (comp.getD v 0) 0 = sl.getD v 0) →
    ∃ H I O, vertsO comp sl out k head into outs = some (H, I, O) ∧ (∀ x, I.getD x 0 ≤ B) ∧ (∀ d, (O.getD d []).length ≤ B) ∧ (∀ x, I.getD x 0 = cntF O (List.range m) x) ∧
      (∀ d x, x ∈ O.getD d [] ↔ x ≠ d ∧ ∃ v w, v < n ∧ Eg out v w ∧ comp.getD v 0 = d ∧ comp.getD w 0 = x) ∧ (∀ v, v < n → (∀ u, u < v → comp.getD u 0 ≠ comp.getD v 0) → H.getD (comp.getD v 0) 0 = sl.getD v 0)
  | 0, head, into, outs, _, _, _, _, hb1, hb2, hj, hmem, hh => ⟨head, into, outs, rfl, fun x => by have := hb1 x; omega, fun d => by have := hb2 d; omega, hj,
      fun d x => by
        rw [hmem]
        constructor
        · rintro ⟨h1, v, w, _, h2⟩; exact ⟨h1, v, w, h2⟩
        · rintro ⟨h1, v, w, h2⟩; exact ⟨h1, v, w, Nat.zero_le _, h2⟩,
      fun v hv hu => hh v (Nat.zero_le _) hv (fun u _ hlt => hu u hlt)⟩
  | k + 1, head, into, outs, hk, hl1, hl2, hl3, hb1, hb2, hj, hmem, hh => by
    have hkc : k < comp.length := by omega
    have hks : k < sl.length := by omega
    have hko : k < out.length := by omega
    have e1 : comp[k]? = some (comp.getD k 0) := by rw [List.getD_eq_getElem?_getD, List.getElem?_eq_getElem hkc]; rfl
    have e2 : sl[k]? = some (sl.getD k 0) := by rw [List.getD_eq_getElem?_getD, List.getElem?_eq_getElem hks]; rfl
    have e3 : out[k]? = some (out.getD k []) := by rw [List.getD_eq_getElem?_getD, List.getElem?_eq_getElem hko]; rfl
    have hcm : comp.getD k 0 < m := hm _ (getD_mem hkc)
    rw [vertsO, e1, e2, e3]
    dsimp only
    rw [if_pos (by omega)]
    rw [rowsM_succ] at hb1 hb2
    obtain ⟨I, O, g1, g2, g3, g4, g5⟩ := rowO_ok (B := B) hcm hB hm (out.getD k []) into outs (fun w hw => by have := hE k w hw; omega) hl2 hl3 (fun x => by have := hb1 x; omega) (fun d => by have := hb2 d; omega) hj
    rw [g1]
    dsimp only
    have hlen := rowO_length _ _ _ _ _ g1
    have hs : ∀ c, (head.set (comp.getD k 0) (sl.getD k 0)).getD c 0 = if c = comp.getD k 0 then sl.getD k 0 else head.getD c 0 := fun c => getD_set head _ c _ _ (by omega)
    obtain ⟨H, I2, O2, f1, f2, f3, f4, f5, f6⟩ := vertsO_ok hB hm hcl hsl hol hE k (head.set (comp.getD k 0) (sl.getD k 0)) I O (by omega) (by simpa using hl1) (by omega) (by omega)
      (fun x => by have := g2 x; have := hb1 x; omega) (fun d => by have := g3 d; have := hb2 d; omega) g4 (fun d x => by
        rw [g5, hmem]
        constructor
        · rintro (⟨h1, v, w, h2, h3⟩ | ⟨rfl, h2, w, h3, h4⟩)
          · exact ⟨h1, v, w, by omega, h3⟩
          · exact ⟨h2, k, w, Nat.le_refl _, by omega, h3, rfl, h4⟩
        · rintro ⟨h1, v, w, h2, h3, h4, h5, h6⟩
          by_cases hvk : v = k
          · subst hvk
            exact .inr ⟨h5.symm, by rw [h5]; exact h1, w, h4, h6⟩
          · exact .inl ⟨h1, v, w, by omega, h3, h4, h5, h6⟩) (fun v hv hvn hu => by
        rw [hs]
        by_cases hvk : v = k
        · rw [hvk, if_pos rfl]
        · rw [if_neg (fun he => hu k (Nat.le_refl _) (by omega) he.symm)]
          exact hh v (by omega) hvn (fun u h1 h2 => hu u (by omega) h2))
    exact ⟨H, I2, O2, f1, f2, f3, f4, f5, f6⟩

end Go.Proofs.Ytdohfjidnbhfnaa.Tj

/- scc.Order's plain model: the components are told as a greedy order. -/
namespace Go.Proofs.Ytdohfjidnbhfnaa.Tj

theorem le_sum_map {f : Nat → Nat} : ∀ {l : List Nat} {x : Nat}, x ∈ l → f x ≤ (l.map f).sum
  | y :: l, x, h => by
    rw [List.map_cons, List.sum_cons]
    rcases List.mem_cons.1 h with rfl | h
    · omega
    · have := le_sum_map (f := f) h
      omega
theorem sum_map_zero {f : Nat → Nat} : ∀ {l : List Nat}, (∀ x ∈ l, f x = 0) → (l.map f).sum = 0
  | [], _ => rfl
  | y :: l, h => by
    rw [List.map_cons, List.sum_cons, h y List.mem_cons_self, sum_map_zero (fun x hx => h x (List.mem_cons.2 (.inr hx)))]

def cntU (outs : List (List Nat)) (m : Nat) (T : List Nat) (x : Nat) : Nat := ((List.range m).map fun d => if d ∈ T then 0 else (outs.getD d []).count x).sum
theorem cntU_nil (outs : List (List Nat)) (m x : Nat) : cntU outs m [] x = cntF outs (List.range m) x := by
  unfold cntU cntF
  simp
theorem cntU_snoc {outs : List (List Nat)} {m c : Nat} {T : List Nat} (hc : c < m) (hT : c ∉ T) (x : Nat) : cntU outs m T x = cntU outs m (T ++ [c]) x + (outs.getD c []).count x := by
  refine sum_range_one _ _ c _ m hc ?_ ?_
  · rw [if_neg hT, if_pos (by simp), Nat.zero_add]
  · intro d hd
    by_cases h : d ∈ T
    · rw [if_pos h, if_pos (by simp [h])]
    · rw [if_neg h, if_neg (by simp [h, hd])]
theorem cntU_zero {outs : List (List Nat)} {m x : Nat} {T : List Nat} : cntU outs m T x = 0 ↔ ∀ d, d < m → d ∉ T → x ∉ outs.getD d [] := by
  constructor
  · intro h d hd hT hx
    have h1 : (if d ∈ T then 0 else (outs.getD d []).count x) ≤ cntU outs m T x := le_sum_map (f := fun d => if d ∈ T then 0 else (outs.getD d []).count x) (List.mem_range.2 hd)
    rw [if_neg hT, h] at h1
    have := List.count_pos_iff.2 hx
    omega
  · intro h
    refine sum_map_zero (fun d hd => ?_)
    split
    · rfl
    · rename_i hT
      exact List.count_eq_zero.2 (h d (List.mem_range.1 hd) hT)

theorem count_set_zero {l : List Nat} {i q : Nat} (hi : i < l.length) (h : l.getD i 0 = q + 1) (x : Nat) : (l.set i x).count 0 = l.count 0 + if x = 0 then 1 else 0 := by
  have h1 : l[i] = q + 1 := by rw [List.getD_eq_getElem?_getD, List.getElem?_eq_getElem hi] at h; exact h
  rw [List.count_set hi, h1]
  by_cases hx : x = 0
  · simp [hx]
  · simp [hx]

theorem insS_length (c : Nat) : ∀ l : List Nat, (insS c l).length = l.length + 1
  | [] => rfl
  | x :: r => by
    rw [insS]
    split
    · rfl
    · rw [List.length_cons, insS_length c r]; rfl

theorem seedO_ok {into : List Nat} {m : Nat} (hl : into.length = m) (hm : m ≤ 1000000) : ∀ (k c : Nat) (rs : List Nat) (came : Nat), c + k = m → rs.Pairwise (· < ·) → (∀ x, x ∈ rs ↔ x < c ∧ into.getD x 0 = 0) → came = (into.take c).count 0 → rs.length = came →
    ∃ R, seedO into k c rs came = some (R, into.count 0) ∧ R.Pairwise (· < ·) ∧ (∀ x, x ∈ R ↔ x < m ∧ into.getD x 0 = 0) ∧ R.length = into.count 0
  | 0, c, rs, came, hc, hs, hmem, hcm, hrl => by
    have : c = m := by omega
    subst this
    rw [List.take_of_length_le (by omega)] at hcm
    subst hcm
    exact ⟨rs, rfl, hs, hmem, hrl⟩
  | k + 1, c, rs, came, hc, hs, hmem, hcm, hrl => by
    have hcl : c < into.length := by omega
    have htk : into.take (c + 1) = into.take c ++ [into.getD c 0] := by
      rw [List.take_add_one, List.getD_eq_getElem?_getD, List.getElem?_eq_getElem hcl]
      rfl
    have hcc : came ≤ c := by
      rw [hcm]
      refine Nat.le_trans List.count_le_length ?_
      rw [List.length_take]
      omega
    have hnc : c ∉ rs := fun h => by have := ((hmem c).1 h).1; omega
    obtain ⟨q, hq⟩ : ∃ q, into.getD c 0 = q := ⟨_, rfl⟩
    have e : into[c]? = some q := by rw [← hq, List.getD_eq_getElem?_getD, List.getElem?_eq_getElem hcl]; rfl
    rw [hq] at htk
    rw [seedO, e]
    cases q with
    | zero =>
      dsimp only
      rw [if_pos ⟨hnc, by omega⟩]
      refine seedO_ok hl hm k (c + 1) (insS c rs) (came + 1) (by omega) (insS_sorted c rs hs hnc) (fun x => ?_) ?_ (by rw [insS_length, hrl])
      · rw [mem_insS, hmem]
        constructor
        · rintro (rfl | ⟨h1, h2⟩)
          · exact ⟨by omega, hq⟩
          · exact ⟨by omega, h2⟩
        · rintro ⟨h1, h2⟩
          by_cases hx : x = c
          · exact .inl hx
          · exact .inr ⟨by omega, h2⟩
      · rw [htk, List.count_append, ← hcm]
        rfl
    | succ q =>
      dsimp only
      refine seedO_ok hl hm k (c + 1) rs came (by omega) hs (fun x => ?_) ?_ hrl
      · rw [hmem]
        constructor
        · rintro ⟨h1, h2⟩; exact ⟨by omega, h2⟩
        · rintro ⟨h1, h2⟩
          refine ⟨?_, h2⟩
          by_cases hx : x = c
          · rw [hx, hq] at h2; omega
          · omega
      · rw [htk, List.count_append, ← hcm]
        simp

theorem freeO_ok {m : Nat} (hm : m ≤ 1000000) (a : Nat → Nat) (P : Nat → Prop) : ∀ (row into rs : List Nat) (came : Nat), into.length = m → (∀ x ∈ row, x < m) → (∀ x, into.getD x 0 = a x + row.count x) → (∀ x, into.getD x 0 ≤ 1000000) →
    rs.Pairwise (· < ·) → (∀ x, x ∈ rs ↔ x < m ∧ P x ∧ into.getD x 0 = 0) → (∀ x, into.getD x 0 ≠ 0 → P x) → came = into.count 0 →
    ∃ I R, freeO row into rs came = some (I, R, I.count 0) ∧ I.length = m ∧ (∀ x, I.getD x 0 = a x) ∧ R.Pairwise (· < ·) ∧ (∀ x, x ∈ R ↔ x < m ∧ P x ∧ a x = 0) ∧ I.count 0 + rs.length = came + R.length
  | [], into, rs, came, hl, _, hi, _, hs, hmem, _, hcm => by
    have hi' : ∀ x, into.getD x 0 = a x := fun x => by have := hi x; simpa using this
    exact ⟨into, rs, by rw [freeO, hcm], hl, hi', hs, fun x => by rw [hmem, hi'], by omega⟩
  | d :: row, into, rs, came, hl, hr, hi, hb, hs, hmem, hP, hcm => by
    have hd := hr d List.mem_cons_self
    have hid := hi d
    rw [List.count_cons_self] at hid
    obtain ⟨q, hq⟩ : ∃ q, into.getD d 0 = q + 1 := ⟨a d + row.count d, by omega⟩
    have hbd := hb d
    have e : into[d]? = some (q + 1) := by
      rw [← hq, List.getD_eq_getElem?_getD, List.getElem?_eq_getElem (by omega)]
      rfl
    have hset : ∀ x, (into.set d q).getD x 0 = if x = d then q else into.getD x 0 := fun x => getD_set into d x _ _ (by omega)
    have hi2 : ∀ x, (into.set d q).getD x 0 = a x + row.count x := fun x => by
      rw [hset]
      split
      · rename_i hx; rw [hx]; omega
      · rename_i hx
        have := hi x
        rw [List.count_cons_of_ne (fun h => hx h.symm)] at this
        exact this
    have hb2 : ∀ x, (into.set d q).getD x 0 ≤ 1000000 := fun x => by
      rw [hset]
      have := hb x
      split <;> omega
    have hdP : P d := hP d (by omega)
    have hcs := count_set_zero (by omega : d < into.length) hq q
    have hdr : d ∉ rs := fun h => by have := ((hmem d).1 h).2.2; omega
    have hP2 : ∀ x, (into.set d q).getD x 0 ≠ 0 → P x := fun x hx => by
      rw [hset] at hx
      split at hx
      · rename_i h; rw [h]; exact hdP
      · exact hP x hx
    rw [freeO, e]
    dsimp only
    rw [if_pos (by omega)]
    have hcnt : came < m := by
      rw [hcm, ← hl]
      have h1 : into.count 0 ≤ into.length := List.count_le_length
      rcases Nat.lt_or_ge (into.count 0) into.length with h2 | h2
      · exact h2
      · have h3 : ∀ b ∈ into, 0 = b := List.count_eq_length.1 (by omega)
        have h4 := h3 (into.getD d 0) (getD_mem (by omega))
        omega
    by_cases hq0 : q = 0
    · rw [if_pos hq0, if_pos ⟨hdr, by omega⟩]
      rw [if_pos hq0] at hcs
      obtain ⟨I, R, g1, g2, g3, g4, g5, g6⟩ := freeO_ok hm a P row (into.set d q) (insS d rs) (came + 1) (by simpa using hl) (fun x hx => hr x (List.mem_cons.2 (.inr hx))) hi2 hb2 (insS_sorted d rs hs hdr) (fun x => by
        rw [mem_insS, hmem, hset]
        constructor
        · rintro (rfl | ⟨h1, h2, h3⟩)
          · exact ⟨hd, hdP, by rw [if_pos rfl]; exact hq0⟩
          · refine ⟨h1, h2, ?_⟩
            split
            · exact hq0
            · exact h3
        · rintro ⟨h1, h2, h3⟩
          split at h3
          · rename_i h; exact .inl h
          · exact .inr ⟨h1, h2, h3⟩) hP2 (by omega)
      refine ⟨I, R, g1, g2, g3, g4, g5, ?_⟩
      rw [insS_length] at g6
      omega
    · rw [if_neg hq0]
      rw [if_neg hq0] at hcs
      obtain ⟨I, R, g1, g2, g3, g4, g5, g6⟩ := freeO_ok hm a P row (into.set d q) rs came (by simpa using hl) (fun x hx => hr x (List.mem_cons.2 (.inr hx))) hi2 hb2 hs (fun x => by
        rw [hmem, hset]
        constructor
        · rintro ⟨h1, h2, h3⟩
          refine ⟨h1, h2, ?_⟩
          split
          · rename_i h; rw [h, hq] at h3; omega
          · exact h3
        · rintro ⟨h1, h2, h3⟩
          split at h3
          · exact absurd h3 hq0
          · exact ⟨h1, h2, h3⟩) hP2 (by omega)
      exact ⟨I, R, g1, g2, g3, g4, g5, g6⟩

def Greedy (outs : List (List Nat)) (m : Nat) (T : List Nat) : Prop :=
  ∀ P c Q, T = P ++ c :: Q → c < m ∧ c ∉ P ∧ (∀ d, d < m → d ∉ P → c ∉ outs.getD d []) ∧ ∀ c', c' < c → c' ∉ P → ∃ d, d < m ∧ d ∉ P ∧ c' ∈ outs.getD d []

theorem Greedy.snoc {outs : List (List Nat)} {m c : Nat} {T : List Nat} (h : Greedy outs m T) (h1 : c < m) (h2 : c ∉ T) (h3 : ∀ d, d < m → d ∉ T → c ∉ outs.getD d []) (h4 : ∀ c', c' < c → c' ∉ T → ∃ d, d < m ∧ d ∉ T ∧ c' ∈ outs.getD d []) : Greedy outs m (T ++ [c]) := by
  intro P c0 Q he
  rcases List.eq_nil_or_concat Q with rfl | ⟨Q', q, rfl⟩
  · have := List.append_inj' he rfl
    obtain ⟨rfl, hc⟩ := this
    cases hc
    exact ⟨h1, h2, h3, h4⟩
  · rw [show P ++ c0 :: (Q'.concat q) = (P ++ c0 :: Q') ++ [q] by simp] at he
    have := List.append_inj' he rfl
    exact h P c0 Q' this.1

theorem loopO_ok {head : List Int} {outs : List (List Nat)} {m : Nat} (hm : m ≤ 999999) (hh : head.length = m) (ho : outs.length = m) (hb : ∀ T x, cntU outs m T x ≤ 1000000) (hout : ∀ d x, x ∈ outs.getD d [] → x < m)
    (hmin : ∀ T : List Nat, (∃ x, x < m ∧ x ∉ T) → ∃ c, c < m ∧ c ∉ T ∧ ∀ d, d < m → d ∉ T → c ∉ outs.getD d []) :
    ∀ (k : Nat) (into rs : List Nat) (T : List Nat), into.length = m → (∀ x, into.getD x 0 = cntU outs m T x) → rs.Pairwise (· < ·) → (∀ x, x ∈ rs ↔ x < m ∧ x ∉ T ∧ into.getD x 0 = 0) → (∀ x ∈ T, into.getD x 0 = 0) → T.length + rs.length = into.count 0 → Greedy outs m T →
      m < T.length + k → ∃ F, loopO head outs k into rs (into.count 0) (T.map fun c => head.getD c 0) = some (F.map fun c => head.getD c 0) ∧ Greedy outs m F ∧ (∀ x, x < m → x ∈ F) ∧ F.length = m
  | 0, into, rs, T, hl, _, _, _, _, hc, _, hk => by
    have := List.count_le_length (a := 0) (l := into)
    omega
  | k + 1, into, [], T, hl, hi, _, hmem, hT, hc, hG, hk => by
    rw [loopO]
    have hall : ∀ x, x < m → x ∈ T := by
      intro x hx
      refine Classical.byContradiction (fun hxT => ?_)
      obtain ⟨c, h1, h2, h3⟩ := hmin T ⟨x, hx, hxT⟩
      have := (hmem c).2 ⟨h1, h2, by rw [hi]; exact cntU_zero.2 h3⟩
      simp at this
    refine ⟨T, rfl, hG, hall, ?_⟩
    have : into.count 0 = into.length := List.count_eq_length.2 (fun b hb => by
      obtain ⟨i, hi', rfl⟩ := List.mem_iff_getElem.1 hb
      have := hT i (hall i (by omega))
      rw [List.getD_eq_getElem?_getD, List.getElem?_eq_getElem hi'] at this
      exact this.symm)
    simp only [List.length_nil] at hc
    omega
  | k + 1, into, c :: rs, T, hl, hi, hs, hmem, hT, hc, hG, hk => by
    obtain ⟨hcm, hcT, hc0⟩ := (hmem c).1 List.mem_cons_self
    have hpre : ∀ d, d < m → d ∉ T → c ∉ outs.getD d [] := cntU_zero.1 (by rw [← hi]; exact hc0)
    have hleast : ∀ c', c' < c → c' ∉ T → ∃ d, d < m ∧ d ∉ T ∧ c' ∈ outs.getD d [] := by
      intro c' hlt hcT'
      have h1 : into.getD c' 0 ≠ 0 := fun h0 => by
        have := (hmem c').2 ⟨by omega, hcT', h0⟩
        rcases List.mem_cons.1 this with he | hr
        · omega
        · have := (List.pairwise_cons.1 hs).1 c' hr
          omega
      refine Classical.byContradiction (fun hno => h1 ?_)
      rw [hi]
      refine cntU_zero.2 (fun d hd hdT hx => hno ⟨d, hd, hdT, hx⟩)
    have e1 : head[c]? = some (head.getD c 0) := by rw [List.getD_eq_getElem?_getD, List.getElem?_eq_getElem (by omega)]; rfl
    have e2 : outs[c]? = some (outs.getD c []) := by rw [List.getD_eq_getElem?_getD, List.getElem?_eq_getElem (by omega)]; rfl
    have hcl : into.count 0 ≤ m := hl ▸ List.count_le_length
    simp only [List.length_cons] at hc
    rw [loopO, e1, e2]
    dsimp only
    rw [if_pos ⟨by rw [List.length_map]; omega, by omega⟩]
    obtain ⟨I, R, g1, g2, g3, g4, g5, g6⟩ := freeO_ok (by omega) (cntU outs m (T ++ [c])) (fun x => x ∉ T ++ [c]) (outs.getD c []) into rs (into.count 0) hl (fun x hx => hout c x hx) (fun x => by rw [hi]; exact cntU_snoc hcm hcT x) (fun x => by rw [hi]; exact hb T x) (List.pairwise_cons.1 hs).2 (fun x => by
        constructor
        · intro hx
          obtain ⟨h1, h2, h3⟩ := (hmem x).1 (List.mem_cons.2 (.inr hx))
          refine ⟨h1, ?_, h3⟩
          have := (List.pairwise_cons.1 hs).1 x hx
          simp only [List.mem_append, List.mem_singleton, not_or]
          exact ⟨h2, by omega⟩
        · rintro ⟨h1, h2, h3⟩
          simp only [List.mem_append, List.mem_singleton, not_or] at h2
          rcases List.mem_cons.1 ((hmem x).2 ⟨h1, h2.1, h3⟩) with he | hx
          · exact absurd he h2.2
          · exact hx) (fun x hx => by
        simp only [List.mem_append, List.mem_singleton, not_or]
        exact ⟨fun h => hx (hT x h), fun h => hx (h ▸ hc0)⟩) rfl
    rw [g1]
    dsimp only
    have hmap : (T.map fun c => head.getD c 0) ++ [head.getD c 0] = (T ++ [c]).map fun c => head.getD c 0 := by simp
    rw [hmap]
    refine loopO_ok hm hh ho hb hout hmin k I R (T ++ [c]) g2 g3 g4 (fun x => by rw [g5, g3]) (fun x hx => ?_) ?_ (hG.snoc hcm hcT hpre hleast) ?_
    · rw [g3]
      have h1 := cntU_snoc (outs := outs) hcm hcT x
      rcases List.mem_append.1 hx with h | h
      · have h2 := hT x h
        rw [hi] at h2
        omega
      · have h2 : x = c := by simpa using h
        rw [h2] at h1 ⊢
        rw [← hi, hc0] at h1
        omega
    · rw [List.length_append, List.length_singleton]
      omega
    · rw [List.length_append, List.length_singleton]
      omega

end Go.Proofs.Ytdohfjidnbhfnaa.Tj
