/- The heap of floats: Pop, plain. -/
import Derived.Test.YtgihncjllelonaaGreatHt20
import Derived.Test.YtgihncjllelonaaGreatHt21
import Derived.Test.YtgihncjllelonaaGreatHt5
namespace Go.Proofs.YtgihncjllelonaaGreat.Hf
set_option linter.unusedSimpArgs false
set_option linter.unusedVariables false
open Go Go.RowKit Go.Proofs.YtgihncjllelonaaGreat.Mem Go.Proofs.YtgihncjllelonaaGreat.Hn
theorem fits_uniq {f : Int → Option Int} {its : List Itm} (h : Fits f its) {n m : Nat} {x y : Itm} (h1 : its[n]? = some x) (h2 : its[m]? = some y) (h3 : x.1 = y.1) : n = m := by
  have e1 := (h x.1 n).2 ⟨n, rfl, x, h1, rfl⟩
  have e2 := (h x.1 m).2 ⟨m, rfl, y, h2, h3.symm⟩
  rw [e1] at e2
  have := Option.some.inj e2
  omega

theorem pop_ok {f : Int → Option Int} {its : List Itm} {a : Itm} (h : IsHeap its) (hf : Fits f its) (ha : its[0]? = some a) (hl : its.length < 1000000) :
    ∃ R, dropS (its.length + 1) its = some R ∧ IsHeap R ∧ R.length + 1 = its.length ∧ ∀ x, x ∈ R ↔ (x ∈ its ∧ x.1 ≠ a.1) := by
  have hi : 0 < its.length := (List.getElem?_eq_some_iff.1 ha).1
  obtain ⟨m, hm⟩ : ∃ m, its.length = m + 1 := ⟨its.length - 1, by omega⟩
  obtain ⟨b, hb⟩ : ∃ b, its[m]? = some b := ⟨_, List.getElem?_eq_getElem (by omega)⟩
  have hsw := swap_last hm ha
  have htl := takeS_length hm
  have hfs := hf.swap ha hb
  rw [hsw] at hfs
  have hmem : ∀ x, x ∈ takeS its ↔ (x ∈ its ∧ x.1 ≠ a.1) := by
    intro x
    rw [← mem_swapL its hi (show m < its.length by omega), hsw, List.mem_append, List.mem_singleton]
    constructor
    · intro hx
      refine ⟨Or.inl hx, fun he => ?_⟩
      obtain ⟨n, hn⟩ := List.mem_iff_getElem?.1 hx
      have hnl := (List.getElem?_eq_some_iff.1 hn).1
      have := fits_uniq hfs (n := n) (m := m) (x := x) (y := a) (by rw [List.getElem?_append_left hnl]; exact hn) (by rw [List.getElem?_append_right (by omega), htl, Nat.sub_self]; rfl) he
      omega
    · rintro ⟨hx | rfl, hne⟩
      · exact hx
      · exact absurd rfl hne
  unfold dropS
  by_cases h1 : 1 < its.length
  · rw [if_pos h1]
    have hg : ∀ j, j < m → (takeS its).getD j z = if j = 0 then its.getD m z else its.getD j z := fun j hj => by
      have e := swapL_getD its hi (show m < its.length by omega) j
      rw [hsw, List.getD_eq_getElem?_getD, List.getElem?_append_left (by omega), ← List.getD_eq_getElem?_getD, if_neg (show ¬ j = m by omega)] at e
      exact e
    obtain ⟨R, r1, r2, r3, r4⟩ := down_ok (its.length + 1) (takeS its) 0 (by omega) (by omega) (by omega) (by
      intro j hj hjl hne
      rw [hg _ (by omega), hg _ (by omega), if_neg hne, if_neg (by omega)]
      exact h j hj (by omega)) (by
      intro j hj hjl he h0
      omega)
    exact ⟨R, r1, r2, by omega, fun x => (r4 x).trans (hmem x)⟩
  · rw [if_neg h1]
    refine ⟨takeS its, rfl, ?_, by omega, hmem⟩
    intro j hj hjl
    omega

end Go.Proofs.YtgihncjllelonaaGreat.Hf

/- tree.Build ends: plain. -/
namespace Go.Proofs.YtgihncjllelonaaGreat.Tb
open Go Go.Proofs.YtgihncjllelonaaGreat.Hn Go.Proofs.YtgihncjllelonaaGreat.Hf Go.Proofs.YtgihncjllelonaaGreat.Wt
set_option linter.unusedSimpArgs false
set_option linter.unusedVariables false

theorem fits_swap {f : Int → Option Int} {its : List Itm} (h : Fits f its) {i j : Nat} (hi : i < its.length) (hj : j < its.length) : ∃ f', Fits f' (swapL its i j) :=
  ⟨_, h.swap (List.getElem?_eq_getElem hi) (List.getElem?_eq_getElem hj)⟩
theorem up_fits : ∀ (k : Nat) (its : List Itm) (i : Nat) (R : List Itm) (f : Int → Option Int), upS k its i = some R → Fits f its → ∃ f', Fits f' R
  | 0, _, _, _, _, h, _ => by cases h
  | k + 1, its, i, R, f, h, hf => by
    rw [upS] at h
    split at h
    · rename_i hi
      split at h
      · split at h
        · obtain ⟨f', hf'⟩ := fits_swap hf hi (show (i - 1) / 2 < its.length by omega)
          exact up_fits k _ _ R f' h hf'
        · cases h; exact ⟨f, hf⟩
      · cases h; exact ⟨f, hf⟩
    · cases h
theorem down_fits : ∀ (k : Nat) (its : List Itm) (i : Nat) (R : List Itm) (f : Int → Option Int), downS k its i = some R → Fits f its → ∃ f', Fits f' R
  | 0, _, _, _, _, h, _ => by cases h
  | k + 1, its, i, R, f, h, hf => by
    rw [downS] at h
    split at h
    · rename_i hi
      split at h
      · cases h; exact ⟨f, hf⟩
      · obtain ⟨f', hf'⟩ := fits_swap hf hi.1 (leastS_lt hi.1)
        exact down_fits k _ _ R f' h hf'
    · cases h
theorem drop_fits {its R : List Itm} {a : Itm} {k : Nat} {f : Int → Option Int} (hf : Fits f its) (ha : its[0]? = some a) (h : dropS k its = some R) : ∃ f', Fits f' R := by
  have hi : 0 < its.length := (List.getElem?_eq_some_iff.1 ha).1
  obtain ⟨m, hm⟩ : ∃ m, its.length = m + 1 := ⟨its.length - 1, by omega⟩
  have hs := hf.swap ha (List.getElem?_eq_getElem (show m < its.length by omega))
  rw [swap_last hm ha] at hs
  have hp := hs.pop
  unfold dropS at h
  split at h
  · exact down_fits k _ _ R _ h hp
  · cases h; exact ⟨_, hp⟩
theorem getD_set {its : List Itm} {i : Nat} {y : Itm} (hi : i < its.length) (j : Nat) : (its.set i y).getD j z = if j = i then y else its.getD j z := by
  rw [List.getD_eq_getElem?_getD, List.getElem?_set]
  by_cases h : i = j
  · subst h
    rw [if_pos rfl, if_pos hi, if_pos rfl]
    rfl
  · rw [if_neg h, if_neg (fun e => h e.symm), List.getD_eq_getElem?_getD]
theorem lower_ok {its : List Itm} (h : IsHeap its) {i : Nat} {a : Itm} (ha : its[i]? = some a) {p : Nat} (hp : p < a.2.1) :
    ∃ R, upS (its.length + 1) (its.set i (a.1, p, a.2.2)) i = some R ∧ IsHeap R ∧ R.length = its.length ∧ ∀ x, x ∈ R ↔ x ∈ its.set i (a.1, p, a.2.2) := by
  have hi := (List.getElem?_eq_some_iff.1 ha).1
  have hai : its.getD i z = a := getD_of ha
  have hlen : (its.set i (a.1, p, a.2.2)).length = its.length := List.length_set
  obtain ⟨R, r1, r2, r3, r4⟩ := up_ok (its.length + 1) (its.set i (a.1, p, a.2.2)) i (by omega) (by omega) (fun j hj hjl hne => by
    rw [getD_set hi, getD_set hi, if_neg hne]
    have := h j hj (by omega)
    split
    · rename_i he
      rw [he, hai] at this
      rw [leI_iff] at this ⊢
      dsimp only
      omega
    · exact this) (fun j hj hjl he h0 => by
    have h1 := h i h0 hi
    have h2 := h j hj (by omega)
    rw [he] at h2
    rw [getD_set hi, getD_set hi, if_neg (by omega), if_neg (by omega)]
    exact leI_trans h1 h2)
  exact ⟨R, r1, r2, by omega, r4⟩

structure DInv (sv : List Int) (st : Dj) : Prop where
  hp : IsHeap st.its
  ft : ∃ f, Fits f st.its
  kk : ∃ K : List Int, K.Nodup ∧ (∀ v, st.sp v ≠ none ↔ v ∈ K) ∧ (∀ v ∈ K, v ∈ sv) ∧ st.came = K.length ∧ st.its.length ≤ K.length ∧ ∀ x ∈ st.its, x.1 ∈ K
theorem nodup_sub : ∀ {l m : List Int}, l.Nodup → (∀ x ∈ l, x ∈ m) → l.length ≤ m.length
  | [], _, _, _ => by simp
  | a :: l, m, hn, hs => by
    rw [List.nodup_cons] at hn
    have h1 := nodup_sub (m := m.erase a) hn.2 fun x hx => (List.mem_erase_of_ne (fun e : x = a => hn.1 (e ▸ hx))).2 (hs x (by simp [hx]))
    have h2 := List.length_erase_of_mem (hs a (by simp))
    have h3 := List.length_pos_of_mem (hs a (by simp))
    rw [List.length_cons]
    omega
section
variable {sv : List Int} {es : List Ed} {st : Dj} {d : Nat}
theorem relax_ok (h : DInv sv st) (hsv : sv.length ≤ 400) {e : Int} {x : Ed} (hf : es.find? (fun p => decide (p.1 = e)) = some x) (hx : x.2.2.1 ∈ sv) :
    ∃ st2, relaxE es d st e = some st2 ∧ DInv sv st2 ∧ st2.came ≤ sv.length ∧ sv.length - st2.came + st2.its.length = sv.length - st.came + st.its.length := by
  obtain ⟨K, k1, k2, k3, k4, k5, k6⟩ := h.kk
  obtain ⟨f, hfit⟩ := h.ft
  have kl := nodup_sub k1 k3
  obtain ⟨e', u, v, b⟩ := x
  have hv : v ∈ sv := hx
  unfold relaxE
  rw [hf]
  dsimp only
  rw [if_pos ⟨by omega, by omega⟩]
  cases hs : st.sp v with
  | none =>
    have hnk : v ∉ K := fun hk => (k2 v).2 hk hs
    have hny : ∀ y ∈ st.its, y.1 ≠ v := fun y hy e => hnk (e ▸ k6 y hy)
    dsimp only
    rw [if_pos hny]
    obtain ⟨R, r1, r2, r3, r4⟩ := push_ok h.hp (v, add32 d b, (st.came : Int) + 1)
    have hn2 : (v :: K).Nodup := List.nodup_cons.2 ⟨hnk, k1⟩
    have kl2 := nodup_sub (m := sv) hn2 fun y hy => by
      rcases List.mem_cons.1 hy with rfl | hy
      · exact hv
      · exact k3 y hy
    rw [List.length_cons] at kl2
    refine ⟨⟨R, st.came + 1, setP st.sp v (add32 d b, e)⟩, by rw [r1]; rfl, ⟨r2, ?_, v :: K, hn2, fun y => ?_, fun y hy => ?_, by rw [List.length_cons, k4], by rw [r3, List.length_cons]; omega, fun y hy => ?_⟩, by show st.came + 1 ≤ _; omega, by show sv.length - (st.came + 1) + R.length = _; omega⟩
    · have hfn : f v = none := by
        cases hf : f v with
        | none => rfl
        | some w =>
          obtain ⟨j, _, y, hy, hk⟩ := (hfit v w).1 hf
          exact absurd hk (hny y (List.mem_of_getElem? hy))
      exact up_fits _ _ _ R _ r1 (hfit.push (x := (v, add32 d b, (st.came : Int) + 1)) hfn)
    · unfold setP
      by_cases hy : y = v
      · subst hy; simp
      · simp only [if_neg hy]
        rw [k2, List.mem_cons]
        exact ⟨.inr, fun h => h.resolve_left hy⟩
    · rcases List.mem_cons.1 hy with rfl | hy
      · exact hv
      · exact k3 y hy
    · rcases (r4 y).1 hy with hy | rfl
      · exact List.mem_cons.2 (.inr (k6 y hy))
      · exact List.mem_cons.2 (.inl rfl)
  | some r =>
    dsimp only
    by_cases hlt : add32 d b < r.1
    · rw [if_pos hlt]
      have hvk : v ∈ K := (k2 v).1 (by rw [hs]; simp)
      have hset : ∀ y, setP st.sp v (add32 d b, e) y ≠ none ↔ y ∈ K := fun y => by
        unfold setP
        by_cases hy : y = v
        · subst hy; simp [hvk]
        · simp only [if_neg hy]; exact k2 y
      unfold lowS
      cases hi : st.its.findIdx? (fun x => decide (x.1 = v)) with
      | none => exact ⟨_, rfl, ⟨h.hp, ⟨f, hfit⟩, K, k1, hset, k3, k4, k5, k6⟩, by show st.came ≤ _; omega, rfl⟩
      | some i =>
        obtain ⟨hil, hk, _⟩ := List.findIdx?_eq_some_iff_getElem.1 hi
        have ha : st.its[i]? = some st.its[i] := List.getElem?_eq_getElem hil
        have hk : st.its[i].1 = v := by simpa using hk
        obtain ⟨a, haa⟩ : ∃ a, st.its[i] = a := ⟨_, rfl⟩
        rw [haa] at ha hk
        subst hk
        dsimp only
        rw [getD_of ha]
        by_cases hp : add32 d b < a.2.1
        · rw [if_pos hp]
          obtain ⟨R, r1, r2, r3, r4⟩ := lower_ok h.hp ha hp
          refine ⟨⟨R, st.came, setP st.sp a.1 (add32 d b, e)⟩, by rw [r1]; rfl, ⟨r2, up_fits _ _ _ R _ r1 (fits_set hfit ha _), K, k1, hset, k3, k4, by show R.length ≤ _; omega, fun y hy => ?_⟩, by show st.came ≤ _; omega, by show sv.length - st.came + R.length = _; omega⟩
          rcases List.mem_or_eq_of_mem_set ((r4 y).1 hy) with hy | rfl
          · exact k6 y hy
          · exact hvk
        · rw [if_neg hp]
          exact ⟨_, rfl, ⟨h.hp, ⟨f, hfit⟩, K, k1, hset, k3, k4, k5, k6⟩, by show st.came ≤ _; omega, rfl⟩
    · rw [if_neg hlt]
      exact ⟨st, rfl, h, by omega, rfl⟩
theorem edges_ok (hsv : sv.length ≤ 400) : ∀ (l : List Int) (st : Dj), DInv sv st → st.came ≤ sv.length → (∀ e ∈ l, ∃ x : Ed, es.find? (fun p => decide (p.1 = e)) = some x ∧ x.2.2.1 ∈ sv) →
    ∃ st2, edgesS es d l st = some st2 ∧ DInv sv st2 ∧ st2.came ≤ sv.length ∧ sv.length - st2.came + st2.its.length = sv.length - st.came + st.its.length
  | [], st, h, hc, _ => ⟨st, rfl, h, hc, rfl⟩
  | e :: r, st, h, hc, hl => by
    obtain ⟨x, hf, hx⟩ := hl e (by simp)
    obtain ⟨s1, h1, h2, h3, h4⟩ := relax_ok (d := d) h hsv hf hx
    obtain ⟨s2, g1, g2, g3, g4⟩ := edges_ok hsv r s1 h2 h3 fun e he => hl e (by simp [he])
    exact ⟨s2, by rw [edgesS, h1]; exact g1, g2, g3, by omega⟩
theorem dj_ok (hsv : sv.length ≤ 400) (hout : ∀ u, ∀ e ∈ outL es u, ∃ x : Ed, es.find? (fun p => decide (p.1 = e)) = some x ∧ x.2.2.1 ∈ sv) : ∀ (m : Nat) (st : Dj), DInv sv st → st.came ≤ sv.length → sv.length - st.came + st.its.length ≤ m → ∃ R, djS es (outL es) (m + 1) st = some R
  | m, st, h, hc, hm => by
    obtain ⟨its, came, sp⟩ := st
    cases its with
    | nil => exact ⟨sp, by rw [djS]⟩
    | cons a r =>
      obtain ⟨K, k1, k2, k3, k4, k5, k6⟩ := h.kk
      obtain ⟨f, hfit⟩ := h.ft
      have kl := nodup_sub k1 k3
      have hrl : r.length < 1000 := by
        have : (a :: r).length ≤ K.length := k5
        rw [List.length_cons] at this
        omega
      obtain ⟨T, t1, t2, t3, t4⟩ := pop_ok h.hp hfit (show (a :: r)[0]? = some a from rfl) (by rw [List.length_cons]; omega)
      have hT : DInv sv ⟨T, came, sp⟩ := ⟨t2, drop_fits hfit rfl t1, K, k1, k2, k3, k4, by show T.length ≤ _; have : (a :: r).length ≤ K.length := k5; omega, fun y hy => k6 y ((t4 y).1 hy).1⟩
      obtain ⟨s2, e1, e2, e3, e4⟩ := edges_ok (es := es) (d := a.2.1) hsv (outL es a.1) _ hT hc (hout a.1)
      dsimp only at hm hc e4
      have hm' : sv.length - came + (a :: r).length ≤ m := hm
      obtain ⟨m', rfl⟩ : ∃ m', m = m' + 1 := ⟨m - 1, by rw [List.length_cons] at hm'; omega⟩
      have e5 : sv.length - s2.came + s2.its.length ≤ m' := by
        have t5 : T.length + 1 = (a :: r).length := t3
        have e6 : sv.length - s2.came + s2.its.length = sv.length - came + T.length := e4
        clear hrl k5 kl k4 e4 t3
        generalize (a :: r).length = q at *
        omega
      obtain ⟨R, hR⟩ := dj_ok hsv hout m' s2 e2 e3 e5
      refine ⟨R, ?_⟩
      rw [djS]
      dsimp only
      rw [if_pos hrl]
      rw [List.length_cons] at t1
      rw [t1]
      show (edgesS es a.2.1 (outL es a.1) ⟨T, came, sp⟩).bind (djS es (outL es) (m' + 1)) = some R
      rw [e1]
      exact hR
theorem dj_ends {s : Int} (hsv : sv.length ≤ 400) (hz : tcode sv es s = 0) : ∃ k R, djS es (outL es) k (dj1 s) = some R := by
  obtain ⟨h1, h2, h3, h4, h5, h6⟩ := tcode_zero hz
  have hout : ∀ u, ∀ e ∈ outL es u, ∃ x : Ed, es.find? (fun p => decide (p.1 = e)) = some x ∧ x.2.2.1 ∈ sv := fun u e he => by
    obtain ⟨p, hp, hpe⟩ := List.mem_map.1 he
    have hne : es.find? (fun p => decide (p.1 = e)) ≠ none := fun h => by
      rw [List.find?_eq_none] at h
      exact h p (List.mem_filter.1 hp).1 (by simpa using hpe)
    obtain ⟨x, hx⟩ := Option.ne_none_iff_exists'.1 hne
    exact ⟨x, hx, (h4 x (List.mem_of_find?_eq_some hx)).2⟩
  have hpos := List.length_pos_of_mem h5
  obtain ⟨R, hR⟩ := dj_ok hsv hout (sv.length - 1 + 1) (dj1 s) ⟨fun j hj hjl => by simp [dj1] at hjl; omega, ⟨_, Fits.nil.push (x := (s, 0, 1)) rfl⟩, [s], by simp, fun v => by
    unfold dj1 setP
    dsimp only
    by_cases hv : v = s <;> simp [hv], fun v hv => by rw [List.mem_singleton] at hv; exact hv ▸ h5, rfl, by simp [dj1], fun x hx => by simp [dj1] at hx; simp [hx]⟩ (by show 1 ≤ _; omega) (by show sv.length - 1 + 1 ≤ _; omega)
  exact ⟨_, R, hR⟩
end
end Go.Proofs.YtgihncjllelonaaGreat.Tb

/- cert: claims of a tree; sum, own, quiet. -/
namespace Go.Proofs.YtgihncjllelonaaGreat.Ce
open Go Go.RowKit Go.MapKept Go.Proofs.YtgihncjllelonaaGreat.Mem Go.Proofs.YtgihncjllelonaaGreat.Sl Go.Proofs.YtgihncjllelonaaGreat.Lw Go.Proofs.YtgihncjllelonaaGreat.Wt Go.Proofs.YtgihncjllelonaaGreat.Tb Go.Proofs.YtgihncjllelonaaGreatW.PrintWords Go.Proofs.YtgihncjllelonaaGreatW.PrintLast
attribute [local go_sem ↓] Go.wp_at_zero Go.wp_at_succ
set_option linter.unusedSimpArgs false
set_option linter.unusedVariables false

abbrev Ds := Int × Bool × Nat × Int
def dsV (p : Ds) : Value := .agg #[.int .i64 p.1, .bool p.2.1, .int .u32 (p.2.2.1 : Int), .int .i64 p.2.2.2]
def dsM (l : List Ds) : Int → Option Ds := fun v => l.reverse.find? fun p => decide (p.1 = v)
def dsF (l : List Ds) : Int → Option Value := fun v => (dsM l v).map dsV
theorem dsF_step (l : List Ds) (x : Ds) : updV (dsF l) x.1 (some (dsV x)) = dsF (l ++ [x]) := by
  funext v
  unfold updV dsF dsM
  rw [List.reverse_append, List.reverse_singleton, List.singleton_append, List.find?_cons]
  by_cases h : x.1 = v
  · subst h
    simp
  · rw [if_neg (fun e => h e.symm), decide_eq_false h]
def dD (l : List Ds) (v : Int) : Ds := (dsM l v).getD (0, false, 0, 0)
def eD (es : List Ed) (e : Int) : Ed := (es.find? fun p => decide (p.1 = e)).getD (0, 0, 0, 0)
theorem dsF_get (l : List Ds) (v : Int) : (dsF l v).getD (.agg #[.int .i64 0, .bool false, .int .u32 0, .int .i64 0]) = dsV (dD l v) := by
  unfold dsF dD
  cases dsM l v <;> rfl
theorem edF_get (es : List Ed) (e : Int) : (edF es e).getD (.agg #[.int .i64 0, .int .i64 0, .int .i64 0, .int .u32 0]) = edV (eD es e) := by
  unfold edF eD
  cases es.find? (fun p => decide (p.1 = e)) <;> rfl
theorem zero_dist : ∀ w : World, (zeroValue 78).run Tryz.prog w = .ok (.agg #[.int .i64 0, .bool false, .int .u32 0, .int .i64 0]) w := fun w => by kernel_rfl

theorem sum_calls (a b : Nat) (w : World) (ha : a < 4294967296) (hb : b < 4294967296) : Calls Tryz.prog 79 #[.int .u32 (a : Int), .int .u32 (b : Int)] w fun e w' => e = .returned (.int .u32 (add32 a b : Int)) ∧ w' = w := by
  have h1 : (callFunc 60 #[.int .u32 (a : Int)]).run Tryz.prog w = .ok (.value (.float .f32 a)) w := by
    have := frombits_run a w
    rwa [Int.toNat_natCast] at this
  have h2 : (callFunc 60 #[.int .u32 (b : Int)]).run Tryz.prog w = .ok (.value (.float .f32 b)) w := by
    have := frombits_run b w
    rwa [Int.toNat_natCast] at this
  have hA := add_calls a b w ha hb
  have hB := wbits_calls (add32 a b) w (add32_some ha hb).2
  obtain ⟨c, hc⟩ : ∃ c, add32 a b = c := ⟨_, rfl⟩
  rw [hc] at hA hB ⊢
  have HA := Lib.hid hA
  have HB := Lib.hid hB
  clear hA hB hc ha hb
  go_enter Tryz.func79, Tryz.ntmps79
  go_wp2_with fail
  refine HA.out.mono ?_
  rintro e w1 ⟨rfl, rfl⟩
  go_wp2_with fail
  refine HB.out.mono ?_
  rintro e w1 ⟨rfl, rfl⟩
  go_wp2
  go_ret
  exact ⟨rfl, rfl⟩

def ownB (s : Int) (ds : List Ds) (es : List Ed) (d : Ds) : Bool :=
  if d.1 = s then decide (d.2.1 = false ∧ d.2.2.1 = 0 ∧ d.2.2.2 = 0)
  else if d.2.1 = true then decide (d.2.2.1 = 0 ∧ d.2.2.2 = 0)
  else match es.find? (fun p => decide (p.1 = d.2.2.2)) with
    | none => false
    | some x => decide (x.2.2.1 = d.1 ∧ (dD ds x.2.1).2.1 = false ∧ d.2.2.1 = add32 (dD ds x.2.1).2.2.1 x.2.2.2)
structure Cm (w : World) (md me : Nat) (ds : List Ds) (es : List Ed) : Prop where
  dm : MQ w md (dsF ds)
  em : MQ w me (edF es)
  db : ∀ p ∈ ds, p.2.2.1 < 4294967296
  eb : ∀ p ∈ es, p.2.2.2 < 4294967296
section
variable {w w' : World} {md me : Nat} {ds : List Ds} {es : List Ed}
theorem Cm.below (h : Cm w md me ds es) (hb : Below w.heap.size w w') : Cm w' md me ds es := ⟨h.dm.below hb h.dm.lt, h.em.below hb h.em.lt, h.db, h.eb⟩
theorem dD_bits (h : ∀ p ∈ ds, p.2.2.1 < 4294967296) (v : Int) : (dD ds v).2.2.1 < 4294967296 := by
  unfold dD dsM
  cases hf : ds.reverse.find? (fun p => decide (p.1 = v)) with
  | none => simp
  | some p => exact h p (List.mem_reverse.1 (List.mem_of_find?_eq_some hf))
theorem eD_bits (h : ∀ p ∈ es, p.2.2.2 < 4294967296) (e : Int) : (eD es e).2.2.2 < 4294967296 := by
  unfold eD
  cases hf : es.find? (fun p => decide (p.1 = e)) with
  | none => simp
  | some p => exact h p (List.mem_of_find?_eq_some hf)
set_option maxRecDepth 100000 in
theorem Cm.dlook (h : Cm w md me ds es) (v : Int) : (Instr.lookup 79 (.map (some md)) (.int .i64 v) false).run Tryz.prog w = .ok (.agg #[.int .i64 (dD ds v).1, .bool (dD ds v).2.1, .int .u32 ((dD ds v).2.2.1 : Int), .int .i64 (dD ds v).2.2.2]) w := by
  have := h.dm.lookup (P := Tryz.prog) (T := 79) Tryz.underlying79 Tryz.underlying3 zero_dist v
  rwa [dsF_get] at this
set_option maxRecDepth 100000 in
theorem Cm.elook (h : Cm w md me ds es) (e : Int) : (Instr.lookup 80 (.map (some me)) (.int .i64 e) true).run Tryz.prog w = .ok (.tuple #[.agg #[.int .i64 (eD es e).1, .int .i64 (eD es e).2.1, .int .i64 (eD es e).2.2.1, .int .u32 ((eD es e).2.2.2 : Int)], .bool (es.find? fun p => decide (p.1 = e)).isSome]) w := by
  have := h.em.lookup_ok (P := Tryz.prog) (T := 80) Tryz.underlying80 Tryz.underlying3 zero_edge e
  rw [edF_get] at this
  have h2 : (edF es e).isSome = (es.find? fun p => decide (p.1 = e)).isSome := by unfold edF; simp
  rwa [h2] at this
set_option maxRecDepth 100000 in
theorem Cm.elook1 (h : Cm w md me ds es) (e : Int) : (Instr.lookup 80 (.map (some me)) (.int .i64 e) false).run Tryz.prog w = .ok (.agg #[.int .i64 (eD es e).1, .int .i64 (eD es e).2.1, .int .i64 (eD es e).2.2.1, .int .u32 ((eD es e).2.2.2 : Int)]) w := by
  have := h.em.lookup (P := Tryz.prog) (T := 80) Tryz.underlying80 Tryz.underlying3 zero_edge e
  rwa [edF_get] at this
end
set_option maxHeartbeats 4000000 in
set_option maxRecDepth 100000 in
theorem own1 (w : World) (s : Int) (md me : Nat) (f : Bool) (b : Int) (e : Int) : Calls Tryz.prog 29 #[.agg #[.int .i64 s, .map (some md), .map (some me)], .agg #[.int .i64 s, .bool f, .int .u32 b, .int .i64 e]] w fun en w' => en = .returned (.bool (decide (f = false ∧ b = 0 ∧ e = 0))) ∧ Below w.heap.size w w' := by
  go_enter Tryz.func29, Tryz.ntmps29
  go_wp2_with fail
  all_goals go_ret
  all_goals refine ⟨?_, (((Below.refl _ _).alloc (Nat.le_refl _) _).alloc (by simp) _)⟩
  all_goals (congr 2; first | (symm; apply decide_eq_true; simp_all; done) | (symm; apply decide_eq_false; simp_all; done) | (simp_all; done) | (simp_all; rfl))
set_option maxHeartbeats 4000000 in
set_option maxRecDepth 100000 in
theorem own2 (w : World) (s v : Int) (md me : Nat) (b : Int) (e : Int) (hv : ¬ v = s) : Calls Tryz.prog 29 #[.agg #[.int .i64 s, .map (some md), .map (some me)], .agg #[.int .i64 v, .bool true, .int .u32 b, .int .i64 e]] w fun en w' => en = .returned (.bool (decide (b = 0 ∧ e = 0))) ∧ Below w.heap.size w w' := by
  go_enter Tryz.func29, Tryz.ntmps29
  go_wp2_with fail
  all_goals go_ret
  all_goals refine ⟨?_, (((Below.refl _ _).alloc (Nat.le_refl _) _).alloc (by simp) _)⟩
  all_goals (congr 2; first | (symm; apply decide_eq_true; simp_all; done) | (symm; apply decide_eq_false; simp_all; done) | (simp_all; done) | (simp_all; rfl))
def tb29_7.T7 : Bool × List (List Nat × List Nat) := (true, [([], []), ([0], [0]), ([1], [1]), ([2, 1], [1, 2]), ([1], [1]), ([4, 1], [1, 4]), ([3, 5, 1], [1, 3, 5]), ([1, 6], [1, 6]), ([7, 1], [7]), ([8], [8]), ([9, 8], [8, 9]), ([10, 8], [8, 10]), ([8, 11], [8, 11]), ([12, 8], [12]), ([13], [13]), ([14, 13], [13, 14]), ([13], [13]), ([16, 13], [13, 16]), ([13], [13]), ([18, 13], [13, 18]), ([17, 19, 13, 13], [13, 17, 19]), ([15, 20, 13], [13, 15, 20]), ([13, 21], [13, 21]), ([22, 20, 0, 1, 2, 3, 4, 5, 6, 7, 8, 9, 10, 11, 12, 13, 14, 15, 16, 17, 18, 19, 20, 21, 22], [22])])
def tb29_7.B7 : List Nat := [0, 1, 3, 7, 3, 19, 63, 127, 255, 511, 1023, 2047, 4095, 8191, 16383, 32767, 16383, 81919, 16383, 278527, 999423, 2097151, 4194303, 8388607]
theorem tb29_7.tab7 : rtab .any (opsOf Tryz.f29 7) = tb29_7.T7 := by kernel_rfl
theorem tb29_7.bits7 : waitsOk tb29_7.T7.2 tb29_7.B7 = true := by kernel_rfl
set_option maxHeartbeats 8000000 in
set_option maxRecDepth 100000 in
theorem own3 (w : World) (s v : Int) (md me b : Nat) (e : Int) (ds : List Ds) (es : List Ed) (hv : ¬ v = s) (h : Cm w md me ds es) (hb : b < 4294967296) : Calls Tryz.prog 29 #[.agg #[.int .i64 s, .map (some md), .map (some me)], .agg #[.int .i64 v, .bool false, .int .u32 (b : Int), .int .i64 e]] w fun en w' => en = .returned (.bool (ownB s ds es (v, false, b, e))) ∧ Below w.heap.size w w' := by
  have hb2 : Below w.heap.size w ((w.alloc (.cells #[.int .i64 s, .map (some md), .map (some me)] 82)).alloc (.cells #[.int .i64 v, .bool false, .int .u32 (b : Int), .int .i64 e] 78)) := ((Below.refl _ _).alloc (Nat.le_refl _) _).alloc (by simp) _
  have l1 := (h.below hb2).elook e
  obtain ⟨⟨xe, xu, xv, xb⟩, hx⟩ : ∃ x, eD es e = x := ⟨_, rfl⟩
  rw [hx] at l1
  have l2 := fun (W : World) (hW : Below w.heap.size w W) => (h.below hW).dlook xu
  obtain ⟨⟨ua, uf, ub, ue⟩, hu⟩ : ∃ x, dD ds xu = x := ⟨_, rfl⟩
  simp only [hu] at l2
  obtain ⟨bin, hbin⟩ : ∃ r, (es.find? fun p => decide (p.1 = e)).isSome = r := ⟨_, rfl⟩
  rw [hbin] at l1
  have l3 := l2 _ (hb2.alloc (by simp; omega) (.cells #[.int .i64 xe, .int .i64 xu, .int .i64 xv, .int .u32 (xb : Int)] 74))
  have hub := dD_bits h.db xu
  have hxb := eD_bits h.eb e
  rw [hu] at hub
  rw [hx] at hxb
  have hspec : ownB s ds es (v, false, b, e) = (bin && decide (xv = v ∧ uf = false ∧ b = add32 ub xb)) := by
    unfold ownB
    rw [if_neg hv, if_neg (by simp)]
    dsimp only
    cases hf : es.find? (fun p => decide (p.1 = e)) with
    | none => rw [hf] at hbin; rw [← hbin]; rfl
    | some x =>
      have hxx : x = (xe, xu, xv, xb) := by rw [← hx]; unfold eD; rw [hf]; rfl
      subst hxx
      rw [hf] at hbin
      rw [← hbin]
      dsimp only
      rw [hu]
      rfl
  rw [hspec]
  have HSU := Lib.hid (fun W : World => sum_calls ub xb W hub hxb)
  clear hspec hx hu hbin l2 hb2 h hub hxb
  go_enter Tryz.func29, Tryz.ntmps29
  go_upto_region 7 with (fail)
  clear l1 l3
  obtain ⟨wy, hwy⟩ : ∃ wy, ((((w.alloc (.cells #[.int .i64 s, .map (some md), .map (some me)] 82)).alloc (.cells #[.int .i64 v, .bool false, .int .u32 (b : Int), .int .i64 e] 78)).alloc (.cells #[.int .i64 xe, .int .i64 xu, .int .i64 xv, .int .u32 (xb : Int)] 74)).alloc (.cells #[.int .i64 ua, .bool uf, .int .u32 (ub : Int), .int .i64 ue] 78)) = wy := ⟨_, rfl⟩
  have hX : At wy (w.heap.size + 1 + 1) [.int .i64 xe, .int .i64 xu, .int .i64 xv, .int .u32 (xb : Int)] 74 ∧ At wy (w.heap.size + 1) [.int .i64 v, .bool false, .int .u32 (b : Int), .int .i64 e] 78 ∧ At wy (w.heap.size + 1 + 1 + 1) [.int .i64 ua, .bool uf, .int .u32 (ub : Int), .int .i64 ue] 78 ∧ Below w.heap.size w wy := by
    subst hwy
    exact ⟨(At.made (by simp) rfl).al, ((At.made (by simp) rfl).al).al, At.made (by simp) rfl, (((((Below.refl _ _).alloc (Nat.le_refl _) _).alloc (by simp) _).alloc (by simp; omega) _).alloc (by simp; omega) _)⟩
  rw [hwy]
  obtain ⟨g3, hg3⟩ : ∃ g, w.heap.size + 1 = g := ⟨_, rfl⟩
  rw [hg3] at hX ⊢
  obtain ⟨g5, hg5⟩ : ∃ g, g3 + 1 = g := ⟨_, rfl⟩
  rw [hg5] at hX ⊢
  obtain ⟨g7, hg7⟩ : ∃ g, g5 + 1 = g := ⟨_, rfl⟩
  rw [hg7] at hX ⊢
  clear hwy hg3 hg5 hg7
  obtain ⟨wd, hwd⟩ : ∃ wd, wy.drew = wd := ⟨_, rfl⟩
  have HX := Lib.hid (show At wd g5 [.int .i64 xe, .int .i64 xu, .int .i64 xv, .int .u32 (xb : Int)] 74 ∧ At wd g3 [.int .i64 v, .bool false, .int .u32 (b : Int), .int .i64 e] 78 ∧ At wd g7 [.int .i64 ua, .bool uf, .int .u32 (ub : Int), .int .i64 ue] 78 ∧ Below w.heap.size w wd from hwd ▸ ⟨hX.1.drew, hX.2.1.drew, hX.2.2.1.drew, hX.2.2.2.drew⟩)
  clear hX
  cases bin with
  | false =>
    refine start_ (n := 24) (S := fun w' => w'.cell? ⟨g5, 2, none⟩ = some (.int .i64 xv) ∧ w'.cell? ⟨g3, 0, none⟩ = some (.int .i64 v)) (ds := []) (bA 24 0) (by kernel_rfl) rfl rfl ⟨(by rw [hwd]; exact HX.out.1.cell 2 rfl), (by rw [hwd]; exact HX.out.2.1.cell 0 rfl)⟩ (fun hHeld => ?_)
    rw [hwd] at hHeld ⊢
    refine with_tabW tb29_7.tab7 tb29_7.bits7 (fun HT_ HW_ => ?_)
    refine pw_ 0 43 (bA 24 1) HT_.out ?_
    refine pw_ 1 44 (bA 24 3) HT_.out ?_
    refine pu_ 2 45 (bA 24 7) HT_.out ?_
    refine pu_ 3 46 (bA 24 15) HT_.out ?_
    refine pu_ 4 47 (bA 24 31) HT_.out ?_
    refine pu_ 5 48 (bA 24 63) HT_.out ?_
    refine pu_ 6 49 (bA 24 127) HT_.out ?_
    refine pw_ 7 50 (bA 24 255) HT_.out ?_
    refine pw_ 8 51 (bA 24 511) HT_.out ?_
    refine pu_ 9 52 (bA 24 1023) HT_.out ?_
    refine pu_ 10 53 (bA 24 2047) HT_.out ?_
    refine pu_ 11 54 (bA 24 4095) HT_.out ?_
    refine pw_ 12 55 (bA 24 8191) HT_.out ?_
    refine pw_ 13 56 (bA 24 16383) HT_.out ?_
    refine pu_ 14 57 (bA 24 32767) HT_.out ?_
    refine pu_ 15 58 (bA 24 65535) HT_.out ?_
    refine pu_ 16 59 (bA 24 131071) HT_.out ?_
    refine pu_ 17 60 (bA 24 262143) HT_.out ?_
    refine pu_ 18 61 (bA 24 524287) HT_.out ?_
    refine pu_ 19 62 (bA 24 1048575) HT_.out ?_
    refine pu_ 20 63 (bA 24 2097151) HT_.out ?_
    refine pu_ 21 64 (bA 24 4194303) HT_.out ?_
    refine pw_ 22 65 (bA 24 8388607) HT_.out ?_
    refine pw_ 23 4 (bA 24 16777215) HT_.out ?_
    refine done_ (done_of HT_.out (by kernel_rfl)) ?_
    clear hHeld HT_ HW_
    go_wp2
    go_ret
    exact ⟨rfl, HX.out.2.2.2⟩
  | true =>
    by_cases hxv : xv = v
    · have hq : ((xv : Int) == v) = true := by simpa using hxv
      cases uf with
      | true =>
        refine start_ (n := 24) (S := fun w' => w'.cell? ⟨g5, 2, none⟩ = some (.int .i64 xv) ∧ w'.cell? ⟨g3, 0, none⟩ = some (.int .i64 v) ∧ w'.cell? ⟨g7, 1, none⟩ = some (.bool true)) (ds := []) (bA 24 0) (by kernel_rfl) rfl rfl ⟨(by rw [hwd]; exact HX.out.1.cell 2 rfl), (by rw [hwd]; exact HX.out.2.1.cell 0 rfl), (by rw [hwd]; exact HX.out.2.2.1.cell 1 rfl)⟩ (fun hHeld => ?_)
        rw [hwd] at hHeld ⊢
        refine with_tabW tb29_7.tab7 tb29_7.bits7 (fun HT_ HW_ => ?_)
        refine pw_ 0 43 (bA 24 1) HT_.out ?_
        refine pw_ 1 44 (bA 24 3) HT_.out ?_
        refine pw_ 2 45 (bA 24 7) HT_.out ?_
        refine pw_ 4 47 (bA 24 23) HT_.out ?_
        refine tw_ 3 46 (bA 24 31) HT_.out HW_.out hHeld (hv := by rintro w' ⟨s0, s1, s2⟩; go_simp; with_reducible rfl) (h := ?_)
        refine tw_ 5 48 (bA 24 63) HT_.out HW_.out hHeld (hv := by rintro w' ⟨s0, s1, s2⟩; go_simp; with_reducible rfl) (h := ?_)
        refine pw_ 6 49 (bA 24 127) HT_.out ?_
        refine pw_ 7 50 (bA 24 255) HT_.out ?_
        refine pw_ 8 51 (bA 24 511) HT_.out ?_
        refine pw_ 9 52 (bA 24 1023) HT_.out ?_
        refine tw_ 10 53 (bA 24 2047) HT_.out HW_.out hHeld (hv := by rintro w' ⟨s0, s1, s2⟩; go_simp; with_reducible rfl) (h := ?_)
        refine pw_ 11 54 (bA 24 4095) HT_.out ?_
        refine pw_ 12 55 (bA 24 8191) HT_.out ?_
        refine pw_ 13 56 (bA 24 16383) HT_.out ?_
        refine pu_ 14 57 (bA 24 32767) HT_.out ?_
        refine pu_ 15 58 (bA 24 65535) HT_.out ?_
        refine pu_ 16 59 (bA 24 131071) HT_.out ?_
        refine pu_ 17 60 (bA 24 262143) HT_.out ?_
        refine pu_ 18 61 (bA 24 524287) HT_.out ?_
        refine pu_ 19 62 (bA 24 1048575) HT_.out ?_
        refine pu_ 20 63 (bA 24 2097151) HT_.out ?_
        refine pu_ 21 64 (bA 24 4194303) HT_.out ?_
        refine pw_ 22 65 (bA 24 8388607) HT_.out ?_
        refine pw_ 23 4 (bA 24 16777215) HT_.out ?_
        refine done_ (done_of HT_.out (by kernel_rfl)) ?_
        clear hHeld HT_ HW_
        go_wp2
        go_ret
        exact ⟨by simp, HX.out.2.2.2⟩
      | false =>
        refine start_ (n := 24) (S := fun w' => w'.cell? ⟨g5, 2, none⟩ = some (.int .i64 xv) ∧ w'.cell? ⟨g3, 0, none⟩ = some (.int .i64 v) ∧ w'.cell? ⟨g7, 1, none⟩ = some (.bool false) ∧ w'.cell? ⟨g3, 2, none⟩ = some (.int .u32 (b : Int)) ∧ w'.cell? ⟨g7, 2, none⟩ = some (.int .u32 (ub : Int)) ∧ w'.cell? ⟨g5, 3, none⟩ = some (.int .u32 (xb : Int))) (ds := []) (bA 24 0) (by kernel_rfl) rfl rfl ⟨(by rw [hwd]; exact HX.out.1.cell 2 rfl), (by rw [hwd]; exact HX.out.2.1.cell 0 rfl), (by rw [hwd]; exact HX.out.2.2.1.cell 1 rfl), (by rw [hwd]; exact HX.out.2.1.cell 2 rfl), (by rw [hwd]; exact HX.out.2.2.1.cell 2 rfl), (by rw [hwd]; exact HX.out.1.cell 3 rfl)⟩ (fun hHeld => ?_)
        rw [hwd] at hHeld ⊢
        refine with_tabW tb29_7.tab7 tb29_7.bits7 (fun HT_ HW_ => ?_)
        refine pw_ 0 43 (bA 24 1) HT_.out ?_
        refine pw_ 1 44 (bA 24 3) HT_.out ?_
        refine pw_ 2 45 (bA 24 7) HT_.out ?_
        refine pw_ 4 47 (bA 24 23) HT_.out ?_
        refine tw_ 3 46 (bA 24 31) HT_.out HW_.out hHeld (hv := by rintro w' ⟨s0, s1, s2, s3, s4, s5⟩; go_simp; with_reducible rfl) (h := ?_)
        refine tw_ 5 48 (bA 24 63) HT_.out HW_.out hHeld (hv := by rintro w' ⟨s0, s1, s2, s3, s4, s5⟩; go_simp; with_reducible rfl) (h := ?_)
        refine pw_ 6 49 (bA 24 127) HT_.out ?_
        refine pw_ 7 50 (bA 24 255) HT_.out ?_
        refine pw_ 8 51 (bA 24 511) HT_.out ?_
        refine pw_ 9 52 (bA 24 1023) HT_.out ?_
        refine tw_ 10 53 (bA 24 2047) HT_.out HW_.out hHeld (hv := by rintro w' ⟨s0, s1, s2, s3, s4, s5⟩; go_simp; with_reducible rfl) (h := ?_)
        refine pw_ 11 54 (bA 24 4095) HT_.out ?_
        refine pw_ 12 55 (bA 24 8191) HT_.out ?_
        refine pw_ 13 56 (bA 24 16383) HT_.out ?_
        refine pw_ 14 57 (bA 24 32767) HT_.out ?_
        refine pw_ 16 59 (bA 24 98303) HT_.out ?_
        refine pw_ 18 61 (bA 24 360447) HT_.out ?_
        refine tw_ 15 58 (bA 24 393215) HT_.out HW_.out hHeld (hv := by rintro w' ⟨s0, s1, s2, s3, s4, s5⟩; go_simp; with_reducible rfl) (h := ?_)
        refine tw_ 17 60 (bA 24 524287) HT_.out HW_.out hHeld (hv := by rintro w' ⟨s0, s1, s2, s3, s4, s5⟩; go_simp; with_reducible rfl) (h := ?_)
        refine tw_ 19 62 (bA 24 1048575) HT_.out HW_.out hHeld (hv := by rintro w' ⟨s0, s1, s2, s3, s4, s5⟩; go_simp; with_reducible rfl) (h := ?_)
        refine one_ (i := 20) (N := some 63) (bA 24 2097151) rfl rfl (one_of HT_.out (by kernel_rfl)) (by decide) (fun K hK => ?_)
        refine gw_ Tryz.func79 #[.int .u32 (ub : Int), .int .u32 (xb : Int)] ?_
        with_reducible refine ((HSU.out wd)).mono ?_
        rintro e1 w1 ⟨rfl, rfl⟩
        refine ⟨_, rfl, ?_⟩
        refine hK.out _ _ ⟨(HX.out.1.cell 2 rfl), (HX.out.2.1.cell 0 rfl), (HX.out.2.2.1.cell 1 rfl), (HX.out.2.1.cell 2 rfl), (HX.out.2.2.1.cell 2 rfl), (HX.out.1.cell 3 rfl)⟩ (fun hHeld => ?_)
        clear hK K
        refine norm_ (a' := ?_) ?_ ?_
        rotate_left
        · show Act.put _ (some 63) _ = _
          simp only [Act.put, pA, pB, pC, pD, pE]; rfl
        refine pw_ 21 64 (bA 24 4194303) HT_.out ?_
        refine pw_ 22 65 (bA 24 8388607) HT_.out ?_
        refine pw_ 23 4 (bA 24 16777215) HT_.out ?_
        refine done_ (done_of HT_.out (by kernel_rfl)) ?_
        clear hHeld HT_ HW_
        go_wp2
        go_ret
        refine ⟨?_, HX.out.2.2.2⟩
        by_cases hq2 : b = add32 ub xb
        · simp [hq2]
        · simp [hq2]
          try omega
    · have hq : ((xv : Int) == v) = false := by simpa using hxv
      refine start_ (n := 24) (S := fun w' => w'.cell? ⟨g5, 2, none⟩ = some (.int .i64 xv) ∧ w'.cell? ⟨g3, 0, none⟩ = some (.int .i64 v)) (ds := []) (bA 24 0) (by kernel_rfl) rfl rfl ⟨(by rw [hwd]; exact HX.out.1.cell 2 rfl), (by rw [hwd]; exact HX.out.2.1.cell 0 rfl)⟩ (fun hHeld => ?_)
      rw [hwd] at hHeld ⊢
      refine with_tabW tb29_7.tab7 tb29_7.bits7 (fun HT_ HW_ => ?_)
      refine pw_ 0 43 (bA 24 1) HT_.out ?_
      refine pw_ 1 44 (bA 24 3) HT_.out ?_
      refine pw_ 2 45 (bA 24 7) HT_.out ?_
      refine pw_ 4 47 (bA 24 23) HT_.out ?_
      refine tw_ 3 46 (bA 24 31) HT_.out HW_.out hHeld (hv := by rintro w' ⟨s0, s1⟩; go_simp; with_reducible rfl) (h := ?_)
      refine tw_ 5 48 (bA 24 63) HT_.out HW_.out hHeld (hv := by rintro w' ⟨s0, s1⟩; go_simp; with_reducible rfl) (h := ?_)
      refine pw_ 6 49 (bA 24 127) HT_.out ?_
      refine pw_ 7 50 (bA 24 255) HT_.out ?_
      refine pw_ 8 51 (bA 24 511) HT_.out ?_
      refine pu_ 9 52 (bA 24 1023) HT_.out ?_
      refine pu_ 10 53 (bA 24 2047) HT_.out ?_
      refine pu_ 11 54 (bA 24 4095) HT_.out ?_
      refine pw_ 12 55 (bA 24 8191) HT_.out ?_
      refine pw_ 13 56 (bA 24 16383) HT_.out ?_
      refine pu_ 14 57 (bA 24 32767) HT_.out ?_
      refine pu_ 15 58 (bA 24 65535) HT_.out ?_
      refine pu_ 16 59 (bA 24 131071) HT_.out ?_
      refine pu_ 17 60 (bA 24 262143) HT_.out ?_
      refine pu_ 18 61 (bA 24 524287) HT_.out ?_
      refine pu_ 19 62 (bA 24 1048575) HT_.out ?_
      refine pu_ 20 63 (bA 24 2097151) HT_.out ?_
      refine pu_ 21 64 (bA 24 4194303) HT_.out ?_
      refine pw_ 22 65 (bA 24 8388607) HT_.out ?_
      refine pw_ 23 4 (bA 24 16777215) HT_.out ?_
      refine done_ (done_of HT_.out (by kernel_rfl)) ?_
      clear hHeld HT_ HW_
      go_wp2
      go_ret
      exact ⟨by simp [hxv], HX.out.2.2.2⟩
end Go.Proofs.YtgihncjllelonaaGreat.Ce

/- slices.Compare and slices.Equal of lists of numbers. -/
namespace Go.Proofs.YtgihncjllelonaaGreat.Ce
open Go Go.RowKit Go.MapKept Go.Proofs.YtgihncjllelonaaGreat.Mem Go.Proofs.YtgihncjllelonaaGreat.Sl Go.Proofs.YtgihncjllelonaaGreat.Lw Go.Proofs.YtgihncjllelonaaGreat.Tb Go.Proofs.YtgihncjllelonaaGreatW.PrintWords Go.Proofs.YtgihncjllelonaaGreatW.PrintLast
attribute [local go_sem ↓] Go.wp_at_zero Go.wp_at_succ
set_option linter.unusedSimpArgs false
set_option linter.unusedVariables false

def cmpI (a b : Int) : Int := if a < b then -1 else if b < a then 1 else 0
def cmpL : List Int → List Int → Int
  | [], [] => 0
  | [], _ :: _ => -1
  | _ :: _, [] => 1
  | a :: x, b :: y => if cmpI a b = 0 then cmpL x y else cmpI a b
theorem cmpI_zero {a b : Int} : cmpI a b = 0 ↔ a = b := by
  unfold cmpI
  split
  · constructor <;> intro h <;> omega
  · split
    · constructor <;> intro h <;> omega
    · constructor <;> intro h <;> omega
set_option maxHeartbeats 4000000 in
set_option maxRecDepth 100000 in
theorem isnan_calls (w : World) (a : Int) : Calls Tryz.prog 125 #[.int .i64 a] w fun e w' => e = .returned (.bool false) ∧ w' = w := by
  have hq : ((a : Int) != a) = false := by simp
  go_enter Tryz.func125, Tryz.ntmps125
  go_wp2
  go_ret
  exact ⟨by first | rfl | (congr 2) | simp, rfl⟩
set_option maxHeartbeats 4000000 in
set_option maxRecDepth 100000 in
theorem compare1_calls (w : World) (a b : Int) : Calls Tryz.prog 112 #[.int .i64 a, .int .i64 b] w fun e w' => e = .returned (.int .i64 (cmpI a b)) ∧ w' = w := by
  have H1 := Lib.hid (isnan_calls w a)
  have H2 := Lib.hid (isnan_calls w b)
  unfold cmpI
  by_cases h1 : a < b
  · rw [if_pos h1]
    go_enter Tryz.func112, Tryz.ntmps112
    go_wp2_with fail
    refine H1.out.mono ?_
    rintro e w1 ⟨rfl, rfl⟩
    go_wp2_with fail
    refine H2.out.mono ?_
    rintro e w1 ⟨rfl, rfl⟩
    go_wp2
    go_ret
    exact ⟨rfl, rfl⟩
  · rw [if_neg h1]
    by_cases h2 : b < a
    · rw [if_pos h2]
      have h2' : a > b := h2
      go_enter Tryz.func112, Tryz.ntmps112
      go_wp2_with fail
      refine H1.out.mono ?_
      rintro e w1 ⟨rfl, rfl⟩
      go_wp2_with fail
      refine H2.out.mono ?_
      rintro e w1 ⟨rfl, rfl⟩
      go_wp2
      go_ret
      exact ⟨rfl, rfl⟩
    · rw [if_neg h2]
      have h2' : ¬ a > b := h2
      go_enter Tryz.func112, Tryz.ntmps112
      go_wp2_with fail
      refine H1.out.mono ?_
      rintro e w1 ⟨rfl, rfl⟩
      go_wp2_with fail
      refine H2.out.mono ?_
      rintro e w1 ⟨rfl, rfl⟩
      go_wp2
      go_ret
      exact ⟨rfl, rfl⟩
set_option maxHeartbeats 8000000 in
set_option maxRecDepth 100000 in
theorem compare_calls (w : World) (A B : Option Addr) (ca cb : Nat) (l r : List Int) (hl : RdI w A l) (hr : RdI w B r) (hll : l.length ≤ 1000000000000000) : Calls Tryz.prog 67 #[.slice A l.length ca, .slice B r.length cb] w fun e w' => e = .returned (.int .i64 (cmpL l r)) ∧ w' = w := by
  obtain ⟨n, hn⟩ : ∃ n, l.length = n := ⟨_, rfl⟩
  obtain ⟨m, hm⟩ : ∃ n, r.length = n := ⟨_, rfl⟩
  obtain ⟨ans, hans⟩ : ∃ a, cmpL l r = a := ⟨_, rfl⟩
  rw [hn] at hll
  rw [hn, hm, hans]
  have HX := Lib.hid (And.intro hl (And.intro hr (And.intro hn (And.intro hm hans))))
  clear hl hr hn hm hans
  go_enter Tryz.func67, Tryz.ntmps67
  go_wp2_with fail
  go_loopg [11] (n + 1) (fun kq v11 w' => ∃ j : Nat, v11 = .int .i64 (j : Int) ∧ Hid (j + kq = n + 1 ∧ j ≤ n ∧ j ≤ m ∧ w' = w ∧ cmpL (l.drop j) (r.drop j) = ans))
  case atStart => exact ⟨0, rfl, Lib.hid ⟨by omega, by omega, by omega, rfl, HX.out.2.2.2.2⟩⟩
  case round =>
    obtain ⟨j, rfl, hJ⟩ := hrel
    obtain ⟨hjk, hjn, hjm, rfl, hS⟩ := hJ.out
    clear hJ
    by_cases hj : j < n
    · obtain ⟨k1, rfl⟩ : ∃ k1, gk = k1 + 1 := ⟨gk - 1, by omega⟩
      obtain ⟨x, hx⟩ : ∃ x, l[j]? = some x := ⟨_, List.getElem?_eq_getElem (by have := HX.out.2.2.1; omega)⟩
      have hdx : l.drop j = x :: l.drop (j + 1) := by
        obtain ⟨e1, e2⟩ := List.getElem?_eq_some_iff.1 hx
        rw [← e2]
        exact (List.getElem_cons_drop e1).symm
      obtain ⟨ga, hga, cx⟩ := HX.out.1 j x hx
      subst hga
      have j0 : (0 : Int) ≤ (j : Int) := by omega
      have j1 : (j : Int) < (n : Int) := by omega
      have j2 : j + 1 ≤ 1000000000000000 := by omega
      by_cases hj2 : j < m
      · obtain ⟨y, hy⟩ : ∃ x, r[j]? = some x := ⟨_, List.getElem?_eq_getElem (by have := HX.out.2.2.2.1; omega)⟩
        have hdy : r.drop j = y :: r.drop (j + 1) := by
          obtain ⟨e1, e2⟩ := List.getElem?_eq_some_iff.1 hy
          rw [← e2]
          exact (List.getElem_cons_drop e1).symm
        obtain ⟨gb, hgb, cy⟩ := HX.out.2.1 j y hy
        subst hgb
        rw [hdx, hdy, cmpL] at hS
        have k3 : (j : Int) < (m : Int) := by omega
        have k4 : ¬ ((j : Int) ≥ (m : Int)) := by omega
        obtain ⟨c, hc⟩ : ∃ c, cmpI x y = c := ⟨_, rfl⟩
        have HC := Lib.hid (compare1_calls wr x y)
        rw [hc] at HC hS
        by_cases hc0 : c = 0
        · rw [if_pos hc0] at hS
          subst hc0
          have HN := Lib.hid (And.intro hjk (And.intro hj (And.intro hj2 hS)))
          clear hS hc hdx hdy hx hy hjk hj hj2 hjn hjm
          go_wp2_with fail
          refine HC.out.mono ?_
          clear HC
          rintro e w1 ⟨rfl, rfl⟩
          go_wp2
          go_roundg k1
          case measure => omega
          case rel => exact ⟨j + 1, by go_num, Lib.hid ⟨by have := HN.out.1; omega, by have := HN.out.2.1; omega, by have := HN.out.2.2.1; omega, rfl, HN.out.2.2.2⟩⟩
        · rw [if_neg hc0] at hS
          have hcb : ((c : Int) != 0) = true := by simpa using hc0
          have HN := Lib.hid hS
          clear hS hc hdx hdy hx hy hjk hj hj2 hjn hjm
          go_wp2_with fail
          refine HC.out.mono ?_
          clear HC
          rintro e w1 ⟨rfl, rfl⟩
          go_wp2
          go_ret
          exact ⟨by rw [← HN.out]; rfl, rfl⟩
      · have hdy : r.drop j = [] := List.drop_eq_nil_of_le (by have := HX.out.2.2.2.1; omega)
        rw [hdx, hdy, cmpL] at hS
        obtain rfl : j = m := by omega
        have k4 : (j : Int) ≥ (j : Int) := by omega
        have HN := Lib.hid hS
        clear hS hdx hdy hx hjk hj hj2 hjn hjm
        go_wp2
        go_ret
        exact ⟨by rw [← HN.out]; rfl, rfl⟩
    · obtain rfl : j = n := by omega
      have jn : ¬ ((j : Int) < (j : Int)) := by omega
      rw [List.drop_eq_nil_of_le (by have := HX.out.2.2.1; omega)] at hS
      by_cases hlt : j < m
      · have k5 : (j : Int) < (m : Int) := by omega
        have HN := Lib.hid (show (-1 : Int) = ans from by
          rw [← hS]
          cases hd : r.drop j with
          | nil => have := List.drop_eq_nil_iff.1 hd; have := HX.out.2.2.2.1; omega
          | cons a b => rfl)
        clear hS hjk hj hjn hjm hlt
        go_wp2
        go_ret
        exact ⟨by rw [← HN.out]; rfl, rfl⟩
      · have k5 : ¬ ((j : Int) < (m : Int)) := by omega
        have HN := Lib.hid (show (0 : Int) = ans from by
          rw [← hS, List.drop_eq_nil_of_le (by have := HX.out.2.2.2.1; omega)]
          rfl)
        clear hS hjk hj hjn hjm hlt
        go_wp2
        go_ret
        exact ⟨by rw [← HN.out]; rfl, rfl⟩
end Go.Proofs.YtgihncjllelonaaGreat.Ce
