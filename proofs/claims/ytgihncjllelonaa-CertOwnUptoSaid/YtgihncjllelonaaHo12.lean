/- Tarjan's search is right: what holds at each step. -/
import Derived.Test.YtgihncjllelonaaHo6
namespace Go.Proofs.Ytgihncjllelonaa.Tj
set_option linter.unusedSimpArgs false
set_option linter.unusedVariables false

theorem getD_set {α : Type} (l : List α) (i j : Nat) (x d : α) (hi : i < l.length) : (l.set i x).getD j d = if j = i then x else l.getD j d := by
  rw [List.getD_eq_getElem?_getD, List.getElem?_set]
  by_cases h : i = j
  · subst h
    rw [if_pos rfl, if_pos hi, if_pos rfl]
    rfl
  · rw [if_neg h, if_neg (fun e => h e.symm), List.getD_eq_getElem?_getD]

inductive Rch (E : Nat → Nat → Prop) : Nat → Nat → Prop
  | refl (a : Nat) : Rch E a a
  | step {a b c : Nat} : Rch E a b → E b c → Rch E a c
theorem Rch.trans {E : Nat → Nat → Prop} {a b c : Nat} (h : Rch E a b) (h' : Rch E b c) : Rch E a c := by
  induction h' with
  | refl => exact h
  | step _ he ih => exact .step ih he
theorem Rch.one {E : Nat → Nat → Prop} {a b : Nat} (h : E a b) : Rch E a b := .step (.refl a) h
theorem Rch.mono {E E' : Nat → Nat → Prop} (hE : ∀ a b, E a b → E' a b) {a b : Nat} (h : Rch E a b) : Rch E' a b := by
  induction h with
  | refl => exact .refl _
  | step _ he ih => exact .step ih (hE _ _ he)
theorem Rch.closed {E : Nat → Nat → Prop} {C : Nat → Prop} (hC : ∀ x y, C x → E x y → C y) {a b : Nat} (h : Rch E a b) (ha : C a) : C b := by
  induction h with
  | refl => exact ha
  | step _ he ih => exact hC _ _ ih he

def Eg (out : List (List Nat)) (u v : Nat) : Prop := v ∈ out.getD u []

structure Inv (n : Nat) (out : List (List Nat)) (S : St) (way : List (Nat × Nat)) : Prop where
  len : Len n S
  tm : S.idx.count 0 + S.time = n
  cl : S.cnt + S.opn.length ≤ S.time
  wl : way.length ≤ S.time
  ile : ∀ v, S.idx.getD v 0 ≤ S.time
  inj : ∀ u v, S.idx.getD u 0 = S.idx.getD v 0 → S.idx.getD u 0 ≠ 0 → u = v
  opw : S.opn.Pairwise (fun a b => S.idx.getD b 0 < S.idx.getD a 0)
  opm : ∀ v ∈ S.opn, v < n ∧ S.idx.getD v 0 ≠ 0
  inn : ∀ v, S.inn.getD v false = true ↔ v ∈ S.opn
  wpw : way.Pairwise (fun a b => S.idx.getD b.1 0 < S.idx.getD a.1 0)
  wop : ∀ p ∈ way, p.1 ∈ S.opn ∧ p.2 ≤ (out.getD p.1 []).length
  lo : ∀ v ∈ S.opn, S.low.getD v 0 ≤ S.idx.getD v 0 ∧ ∃ u ∈ S.opn, S.idx.getD u 0 = S.low.getD v 0 ∧ Rch (Eg out) v u
  fin : ∀ v ∈ S.opn, (∀ m, (v, m) ∉ way) → S.low.getD v 0 < S.idx.getD v 0
  reach : ∀ p ∈ way, ∀ w ∈ S.opn, S.idx.getD p.1 0 ≤ S.idx.getD w 0 → Rch (Eg out) p.1 w
  ex : ∀ x, S.idx.getD x 0 ≠ 0 → ∀ j w, (out.getD x [])[j]? = some w → (∀ m, (x, m) ∈ way → j < m) → S.idx.getD w 0 ≠ 0
  L : ∀ x ∈ S.opn, ∀ j w, (out.getD x [])[j]? = some w → (∀ m, (x, m) ∈ way → j < m) → w ∈ S.opn → ∀ p ∈ way, S.idx.getD p.1 0 ≤ S.idx.getD x 0 → (∀ q ∈ way, S.idx.getD q.1 0 ≤ S.idx.getD x 0 → S.idx.getD q.1 0 ≤ S.idx.getD p.1 0) → S.low.getD p.1 0 ≤ S.idx.getD w 0
  clo : ∀ x, S.idx.getD x 0 ≠ 0 → x ∉ S.opn → ∀ w, Eg out x w → S.idx.getD w 0 ≠ 0 ∧ w ∉ S.opn
  cmp : ∀ x y, S.idx.getD x 0 ≠ 0 → x ∉ S.opn → S.idx.getD y 0 ≠ 0 → y ∉ S.opn → (S.comp.getD x 0 = S.comp.getD y 0 ↔ Rch (Eg out) x y ∧ Rch (Eg out) y x)
  cml : ∀ x, S.idx.getD x 0 ≠ 0 → x ∉ S.opn → S.comp.getD x 0 < S.cnt

section
variable {n : Nat} {out : List (List Nat)} {S : St} {way : List (Nat × Nat)}

theorem Inv.back (h : Inv n out S way) : ∀ (t x : Nat), x ∈ S.opn → S.idx.getD x 0 = t → ∃ p ∈ way, S.idx.getD p.1 0 ≤ S.idx.getD x 0 ∧ Rch (Eg out) x p.1 := by
  intro t
  induction t using Nat.strongRecOn with
  | _ t ih =>
    intro x hx ht
    by_cases hw : ∀ m, (x, m) ∉ way
    · obtain ⟨_, y, hy, hyi, hyr⟩ := h.lo x hx
      have hf := h.fin x hx hw
      obtain ⟨p, hp, hpi, hpr⟩ := ih (S.idx.getD y 0) (by omega) y hy rfl
      exact ⟨p, hp, by omega, hyr.trans hpr⟩
    · obtain ⟨m, hm⟩ := Classical.not_forall.1 hw
      exact ⟨(x, m), Classical.not_not.1 hm, Nat.le_refl _, .refl _⟩

theorem Inv.st0 (n : Nat) (out : List (List Nat)) : Inv n out (st0 n) [] := by
  have hi : ∀ v, (Tj.st0 n).idx.getD v 0 = 0 := fun v => by
    simp only [Tj.st0, List.getD_eq_getElem?_getD, List.getElem?_replicate]
    split <;> rfl
  have hn : ∀ v, (Tj.st0 n).inn.getD v false = false := fun v => by
    simp only [Tj.st0, List.getD_eq_getElem?_getD, List.getElem?_replicate]
    split <;> rfl
  refine ⟨Len.st0 n, by simp [Tj.st0], by simp [Tj.st0], by simp, fun v => by rw [hi]; omega, fun u v _ h => absurd (hi u) h, by simp [Tj.st0], by simp [Tj.st0], fun v => by rw [hn]; simp [Tj.st0], by simp, by simp, by simp [Tj.st0], by simp [Tj.st0], by simp, fun x h => absurd (hi x) h, by simp, fun x h => absurd (hi x) h, fun x y h => absurd (hi x) h, fun x h => absurd (hi x) h⟩

theorem Inv.enter (h : Inv n out S way) {w : Nat} (hw : w < n) (h0 : S.idx.getD w 0 = 0) {way' : List (Nat × Nat)}
    (hv : (way = [] ∧ way' = []) ∨ ∃ v m r, way = (v, m) :: r ∧ way' = (v, m + 1) :: r ∧ (out.getD v [])[m]? = some w) : Inv n out (enterS S w) ((w, 0) :: way') := by
  have hwl : w < S.idx.length := by rw [h.len.i]; exact hw
  have hi : ∀ x, (enterS S w).idx.getD x 0 = if x = w then S.time + 1 else S.idx.getD x 0 := fun x => getD_set S.idx w x _ _ hwl
  have hl : ∀ x, (enterS S w).low.getD x 0 = if x = w then S.time + 1 else S.low.getD x 0 := fun x => getD_set S.low w x _ _ (by rw [h.len.l]; exact hw)
  have hnw : w ∉ S.opn := fun hm => (h.opm w hm).2 h0
  have hne : ∀ x ∈ S.opn, x ≠ w := fun x hx he => hnw (he ▸ hx)
  have hwayne : ∀ p ∈ way, p.1 ≠ w := fun p hp => hne _ (h.wop p hp).1
  -- the way behind the step has the same vertices
  have hsame : ∀ p ∈ way', ∃ q ∈ way, q.1 = p.1 := by
    rcases hv with ⟨_, rfl⟩ | ⟨v, m, r, rfl, rfl, _⟩
    · simp
    · intro p hp
      rcases List.mem_cons.1 hp with rfl | hp
      · exact ⟨_, List.mem_cons_self, rfl⟩
      · exact ⟨p, List.mem_cons.2 (.inr hp), rfl⟩
  have hsame' : ∀ q ∈ way, ∃ p ∈ way', p.1 = q.1 := by
    rcases hv with ⟨rfl, _⟩ | ⟨v, m, r, rfl, rfl, _⟩
    · simp
    · intro p hp
      rcases List.mem_cons.1 hp with rfl | hp
      · exact ⟨_, List.mem_cons_self, rfl⟩
      · exact ⟨p, List.mem_cons.2 (.inr hp), rfl⟩
  have hwayne' : ∀ p ∈ way', p.1 ≠ w := fun p hp => by
    obtain ⟨q, hq, he⟩ := hsame p hp
    rw [← he]; exact hwayne q hq
  -- an edge that is explored behind the step was so ahead of it, or it is the one to w
  have hexp : ∀ x j y, x ≠ w → (out.getD x [])[j]? = some y → (∀ m, (x, m) ∈ (w, 0) :: way' → j < m) → y = w ∨ ∀ m, (x, m) ∈ way → j < m := by
    intro x j y hxw hy hj
    rcases hv with ⟨rfl, rfl⟩ | ⟨v, m, r, rfl, rfl, hed⟩
    · right; simp
    · by_cases hxv : x = v
      · subst hxv
        have := hj (m + 1) (by simp)
        by_cases hjm : j = m
        · left
          subst hjm
          rw [hed] at hy
          exact (Option.some.inj hy).symm
        · right
          intro m' hm'
          rcases List.mem_cons.1 hm' with he | hm'
          · cases he; omega
          · exact hj m' (by simp [hm'])
      · right
        intro m' hm'
        rcases List.mem_cons.1 hm' with he | hm'
        · cases he; exact absurd rfl hxv
        · exact hj m' (by simp [hm'])
  refine ⟨h.len.enter w, ?_, ?_, ?_, ?_, ?_, ?_, ?_, ?_, ?_, ?_, ?_, ?_, ?_, ?_, ?_, ?_, ?_, ?_⟩
  · -- tm
    have h1 : S.idx[w]'hwl = 0 := by rw [List.getD_eq_getElem?_getD, List.getElem?_eq_getElem hwl] at h0; exact h0
    have h2 : 0 < S.idx.count 0 := List.count_pos_iff.2 (h1 ▸ List.getElem_mem hwl)
    have h3 : (S.idx.set w (S.time + 1)).count 0 = S.idx.count 0 - 1 := by
      rw [List.count_set hwl, h1]
      simp
    have h4 := h.tm
    show (S.idx.set w (S.time + 1)).count 0 + (S.time + 1) = n
    omega
  · have := h.cl
    show S.cnt + (w :: S.opn).length ≤ S.time + 1
    simp only [List.length_cons]
    omega
  · have := h.wl
    show ((w, 0) :: way').length ≤ S.time + 1
    rcases hv with ⟨rfl, rfl⟩ | ⟨v, m, r, rfl, rfl, _⟩
    · simp
    · simp only [List.length_cons] at *; omega
  · intro v
    rw [hi]
    show _ ≤ S.time + 1
    have := h.ile v
    split <;> omega
  · intro u v he hu
    rw [hi, hi] at he
    rw [hi] at hu
    have h1 := h.ile u
    have h2 := h.ile v
    by_cases e1 : u = w
    · by_cases e2 : v = w
      · rw [e1, e2]
      · rw [if_pos e1, if_neg e2] at he; omega
    · by_cases e2 : v = w
      · rw [if_neg e1, if_pos e2] at he; omega
      · rw [if_neg e1, if_neg e2] at he
        rw [if_neg e1] at hu
        exact h.inj u v he hu
  · show (w :: S.opn).Pairwise _
    rw [List.pairwise_cons]
    refine ⟨fun x hx => ?_, h.opw.imp_of_mem (fun {a b} ha hb hab => ?_)⟩
    · rw [hi, hi, if_neg (hne x hx), if_pos rfl]
      have := h.ile x
      omega
    · rw [hi, hi, if_neg (hne _ ha), if_neg (hne _ hb)]
      exact hab
  · intro v hv'
    rcases List.mem_cons.1 (show v ∈ w :: S.opn from hv') with rfl | hv'
    · exact ⟨hw, by rw [hi, if_pos rfl]; omega⟩
    · exact ⟨(h.opm v hv').1, by rw [hi, if_neg (hne v hv')]; exact (h.opm v hv').2⟩
  · intro v
    show (S.inn.set w true).getD v false = true ↔ v ∈ w :: S.opn
    rw [getD_set S.inn w v _ _ (by rw [h.len.b]; exact hw), List.mem_cons]
    split
    · rename_i he; simp [he]
    · rename_i he
      rw [h.inn v]
      simp [he]
  · rw [List.pairwise_cons]
    refine ⟨fun p hp => ?_, ?_⟩
    · rw [hi, hi, if_neg (hwayne' p hp), if_pos rfl]
      have := h.ile p.1
      omega
    · have : way'.Pairwise (fun a b => S.idx.getD b.1 0 < S.idx.getD a.1 0) := by
        have hwp := h.wpw
        rcases hv with ⟨rfl, rfl⟩ | ⟨v, m, r, rfl, rfl, _⟩
        · exact List.Pairwise.nil
        · rw [List.pairwise_cons] at hwp ⊢
          exact hwp
      refine this.imp_of_mem (fun {a b} ha hb hab => ?_)
      rw [hi, hi, if_neg (hwayne' _ ha), if_neg (hwayne' _ hb)]
      exact hab
  · intro p hp
    rcases List.mem_cons.1 hp with rfl | hp
    · exact ⟨List.mem_cons_self, Nat.zero_le _⟩
    · rcases hv with ⟨rfl, rfl⟩ | ⟨v, m, r, rfl, rfl, hed⟩
      · simp at hp
      · rcases List.mem_cons.1 hp with rfl | hp
        · exact ⟨List.mem_cons.2 (.inr (h.wop _ List.mem_cons_self).1), (List.getElem?_eq_some_iff.1 hed).1⟩
        · exact ⟨List.mem_cons.2 (.inr (h.wop p (List.mem_cons.2 (.inr hp))).1), (h.wop p (List.mem_cons.2 (.inr hp))).2⟩
  · intro v hv'
    rcases List.mem_cons.1 (show v ∈ w :: S.opn from hv') with rfl | hv'
    · rw [hi, hl, if_pos rfl, if_pos rfl]
      exact ⟨Nat.le_refl _, v, List.mem_cons_self, by rw [hi, if_pos rfl], .refl _⟩
    · rw [hi, hl, if_neg (hne v hv'), if_neg (hne v hv')]
      obtain ⟨h1, u, hu, hui, hur⟩ := h.lo v hv'
      exact ⟨h1, u, List.mem_cons.2 (.inr hu), by rw [hi, if_neg (hne u hu)]; exact hui, hur⟩
  · intro v hv' hnm
    rcases List.mem_cons.1 (show v ∈ w :: S.opn from hv') with rfl | hv'
    · exact absurd List.mem_cons_self (hnm 0)
    · rw [hi, hl, if_neg (hne v hv'), if_neg (hne v hv')]
      refine h.fin v hv' (fun m hm => ?_)
      obtain ⟨p, hp, he⟩ := hsame' _ hm
      obtain ⟨p1, p2⟩ := p
      cases he
      exact hnm p2 (List.mem_cons.2 (.inr hp))
  · intro p hp x hx hle
    rcases List.mem_cons.1 hp with rfl | hp
    · rcases List.mem_cons.1 (show x ∈ w :: S.opn from hx) with rfl | hx
      · exact .refl _
      · rw [hi, hi, if_pos rfl, if_neg (hne x hx)] at hle
        have := h.ile x
        omega
    · obtain ⟨q, hq, he⟩ := hsame p hp
      rw [← he] at hle ⊢
      rcases List.mem_cons.1 (show x ∈ w :: S.opn from hx) with rfl | hx
      · rcases hv with ⟨rfl, _⟩ | ⟨v, m, r, rfl, rfl, hed⟩
        · simp at hq
        · refine .step (h.reach q hq v (h.wop _ List.mem_cons_self).1 ?_) (List.mem_of_getElem? hed)
          rcases List.mem_cons.1 hq with rfl | hq'
          · exact Nat.le_refl _
          · exact Nat.le_of_lt ((List.pairwise_cons.1 h.wpw).1 q hq')
      · rw [hi, hi, if_neg (hwayne q hq), if_neg (hne x hx)] at hle
        exact h.reach q hq x hx hle
  · intro x hx j y hy hj
    by_cases hxw : x = w
    · subst hxw
      exact absurd (hj 0 List.mem_cons_self) (Nat.not_lt_zero _)
    · rw [hi, if_neg hxw] at hx
      rw [hi]
      split
      · omega
      · rename_i hyw
        rcases hexp x j y hxw hy hj with he | he
        · exact absurd he hyw
        · exact h.ex x hx j y hy he
  · intro x hx j y hy hj hyo p hp hpx hown
    by_cases hxw : x = w
    · subst hxw
      exact absurd (hj 0 List.mem_cons_self) (Nat.not_lt_zero _)
    · have hxo : x ∈ S.opn := by
        rcases List.mem_cons.1 (show x ∈ w :: S.opn from hx) with he | hx
        · exact absurd he hxw
        · exact hx
      have hpw : p ∈ way' := by
        rcases List.mem_cons.1 hp with rfl | hp
        · rw [hi, hi, if_pos rfl, if_neg hxw] at hpx
          have := h.ile x
          omega
        · exact hp
      obtain ⟨q, hq, he⟩ := hsame p hpw
      have hp1 := hwayne' p hpw
      rw [hi, hi, if_neg hp1, if_neg hxw] at hpx
      rw [hl, if_neg hp1, hi]
      split
      · have h1 := (h.lo q.1 (h.wop q hq).1).1
        have h2 := h.ile q.1
        rw [he] at h1 h2
        omega
      · rename_i hyw
        have hyo' : y ∈ S.opn := by
          rcases List.mem_cons.1 (show y ∈ w :: S.opn from hyo) with he | hy
          · exact absurd he hyw
          · exact hy
        rcases hexp x j y hxw hy hj with he' | he'
        · exact absurd he' hyw
        · rw [← he]
          refine h.L x hxo j y hy he' hyo' q hq (by rw [he]; exact hpx) (fun q' hq' hle => ?_)
          obtain ⟨p', hp', hpe⟩ := hsame' q' hq'
          have := hown p' (List.mem_cons.2 (.inr hp')) (by rw [hi, hi, if_neg (hwayne' p' hp'), if_neg hxw, hpe]; exact hle)
          rw [hi, hi, if_neg (hwayne' p' hp'), if_neg hp1, hpe] at this
          rw [he]
          exact this
  · intro x hx hxo y hy
    by_cases hxw : x = w
    · exact absurd (List.mem_cons.2 (.inl hxw)) hxo
    · rw [hi, if_neg hxw] at hx
      have hxo' : x ∉ S.opn := fun hm => hxo (List.mem_cons.2 (.inr hm))
      obtain ⟨h1, h2⟩ := h.clo x hx hxo' y hy
      have hyw : y ≠ w := fun he => h1 (he ▸ h0)
      refine ⟨by rw [hi, if_neg hyw]; exact h1, fun hm => ?_⟩
      rcases List.mem_cons.1 (show y ∈ w :: S.opn from hm) with he | hm
      · exact hyw he
      · exact h2 hm
  · intro x y hx hxo hy hyo
    have hxw : x ≠ w := fun he => hxo (List.mem_cons.2 (.inl he))
    have hyw : y ≠ w := fun he => hyo (List.mem_cons.2 (.inl he))
    rw [hi, if_neg hxw] at hx
    rw [hi, if_neg hyw] at hy
    exact h.cmp x y hx (fun hm => hxo (List.mem_cons.2 (.inr hm))) hy (fun hm => hyo (List.mem_cons.2 (.inr hm)))
  · intro x hx hxo
    have hxw : x ≠ w := fun he => hxo (List.mem_cons.2 (.inl he))
    rw [hi, if_neg hxw] at hx
    exact h.cml x hx (fun hm => hxo (List.mem_cons.2 (.inr hm)))

theorem Inv.look {v m : Nat} {r : List (Nat × Nat)} (h : Inv n out S ((v, m) :: r)) {w : Nat} (hed : (out.getD v [])[m]? = some w) (h0 : S.idx.getD w 0 ≠ 0) {x : Nat}
    (hx : (w ∈ S.opn ∧ x = min (S.low.getD v 0) (S.idx.getD w 0)) ∨ (w ∉ S.opn ∧ x = S.low.getD v 0)) : Inv n out { S with low := S.low.set v x } ((v, m + 1) :: r) := by
  have hvo : v ∈ S.opn := (h.wop _ List.mem_cons_self).1
  have hvn : v < n := (h.opm v hvo).1
  have hl : ∀ y, (S.low.set v x).getD y 0 = if y = v then x else S.low.getD y 0 := fun y => getD_set S.low v y _ _ (by rw [h.len.l]; exact hvn)
  have hxle : x ≤ S.low.getD v 0 := by rcases hx with ⟨_, rfl⟩ | ⟨_, rfl⟩ <;> omega
  have hxw : w ∈ S.opn → x ≤ S.idx.getD w 0 := by
    intro hw
    rcases hx with ⟨_, rfl⟩ | ⟨h1, _⟩
    · omega
    · exact absurd hw h1
  have hsame : ∀ p ∈ (v, m + 1) :: r, ∃ q ∈ (v, m) :: r, q.1 = p.1 := by
    intro p hp
    rcases List.mem_cons.1 hp with rfl | hp
    · exact ⟨_, List.mem_cons_self, rfl⟩
    · exact ⟨p, List.mem_cons.2 (.inr hp), rfl⟩
  have hsame' : ∀ p ∈ (v, m) :: r, ∃ q ∈ (v, m + 1) :: r, q.1 = p.1 := by
    intro p hp
    rcases List.mem_cons.1 hp with rfl | hp
    · exact ⟨_, List.mem_cons_self, rfl⟩
    · exact ⟨p, List.mem_cons.2 (.inr hp), rfl⟩
  have hexp : ∀ y j u, (out.getD y [])[j]? = some u → (∀ m', (y, m') ∈ (v, m + 1) :: r → j < m') → (y = v ∧ u = w) ∨ ∀ m', (y, m') ∈ (v, m) :: r → j < m' := by
    intro y j u hu hj
    by_cases hyv : y = v
    · subst hyv
      have := hj (m + 1) List.mem_cons_self
      by_cases hjm : j = m
      · left
        subst hjm
        rw [hed] at hu
        exact ⟨rfl, (Option.some.inj hu).symm⟩
      · right
        intro m' hm'
        rcases List.mem_cons.1 hm' with he | hm'
        · cases he; omega
        · exact hj m' (List.mem_cons.2 (.inr hm'))
    · right
      intro m' hm'
      rcases List.mem_cons.1 hm' with he | hm'
      · cases he; exact absurd rfl hyv
      · exact hj m' (List.mem_cons.2 (.inr hm'))
  refine ⟨h.len.low v x, h.tm, h.cl, h.wl, h.ile, h.inj, h.opw, h.opm, h.inn, ?_, ?_, ?_, ?_, ?_, ?_, ?_, h.clo, h.cmp, h.cml⟩
  · have := h.wpw
    rw [List.pairwise_cons] at this ⊢
    exact this
  · intro p hp
    rcases List.mem_cons.1 hp with rfl | hp
    · exact ⟨hvo, (List.getElem?_eq_some_iff.1 hed).1⟩
    · exact h.wop p (List.mem_cons.2 (.inr hp))
  · intro y hy
    show (S.low.set v x).getD y 0 ≤ _ ∧ ∃ u ∈ S.opn, S.idx.getD u 0 = (S.low.set v x).getD y 0 ∧ _
    rw [hl]
    split
    · rename_i hyv
      subst hyv
      obtain ⟨h1, u, hu, hui, hur⟩ := h.lo y hy
      refine ⟨Nat.le_trans hxle h1, ?_⟩
      rcases hx with ⟨hwo, rfl⟩ | ⟨_, rfl⟩
      · rcases Nat.le_total (S.low.getD y 0) (S.idx.getD w 0) with hle | hle
        · exact ⟨u, hu, by rw [hui]; omega, hur⟩
        · exact ⟨w, hwo, by omega, .one (List.mem_of_getElem? hed)⟩
      · exact ⟨u, hu, hui, hur⟩
    · exact h.lo y hy
  · intro y hy hnm
    show (S.low.set v x).getD y 0 < _
    rw [hl]
    split
    · rename_i hyv
      exact absurd (hyv ▸ List.mem_cons_self) (hnm (m + 1))
    · refine h.fin y hy (fun m' hm' => ?_)
      obtain ⟨q, hq, he⟩ := hsame' _ hm'
      obtain ⟨q1, q2⟩ := q
      cases he
      exact hnm q2 hq
  · intro p hp y hy hle
    obtain ⟨q, hq, he⟩ := hsame p hp
    rw [← he] at hle ⊢
    exact h.reach q hq y hy hle
  · intro y hy j u hu hj
    rcases hexp y j u hu hj with ⟨_, rfl⟩ | he
    · exact h0
    · exact h.ex y hy j u hu he
  · intro y hy j u hu hj huo p hp hpy hown
    show (S.low.set v x).getD p.1 0 ≤ S.idx.getD u 0
    obtain ⟨q, hq, he⟩ := hsame p hp
    have hlow : (S.low.set v x).getD p.1 0 ≤ S.low.getD p.1 0 := by
      rw [hl]
      split
      · rename_i e; rw [e]; exact hxle
      · exact Nat.le_refl _
    rcases hexp y j u hu hj with ⟨rfl, rfl⟩ | he'
    · have h1 := hown (y, m + 1) List.mem_cons_self (Nat.le_refl _)
      have h2 : p.1 = y := h.inj _ _ (by show S.idx.getD p.1 0 = S.idx.getD y 0; have h3 : S.idx.getD p.1 0 ≤ S.idx.getD y 0 := hpy; have h4 : S.idx.getD y 0 ≤ S.idx.getD p.1 0 := h1; omega) (by have := (h.opm q.1 (h.wop q hq).1).2; rw [he] at this; exact this)
      rw [hl, if_pos h2]
      exact hxw huo
    · refine Nat.le_trans hlow ?_
      rw [← he]
      refine h.L y hy j u hu he' huo q hq (by rw [he]; exact hpy) (fun q' hq' hle => ?_)
      obtain ⟨p', hp', hpe⟩ := hsame' q' hq'
      have := hown p' hp' (by rw [hpe]; exact hle)
      rw [hpe] at this
      rw [he]
      exact this

end

end Go.Proofs.Ytgihncjllelonaa.Tj

/- Tarjan's search is right: leaving a vertex. -/
namespace Go.Proofs.Ytgihncjllelonaa.Tj

theorem popS_ok (v cnt : Nat) : ∀ (o : List Nat) (inn : List Bool) (comp : List Nat), (∀ x ∈ o, x < comp.length ∧ x < inn.length) → v ∈ o →
    ∃ pre post inn' comp', o = pre ++ v :: post ∧ v ∉ pre ∧ popS v cnt o inn comp = some (post, inn', comp') ∧ inn'.length = inn.length ∧ comp'.length = comp.length ∧
      (∀ x, inn'.getD x false = if x ∈ pre ∨ x = v then false else inn.getD x false) ∧ (∀ x, comp'.getD x 0 = if x ∈ pre ∨ x = v then cnt else comp.getD x 0)
  | [], _, _, _, hv => by simp at hv
  | w :: r, inn, comp, hlt, hv => by
    obtain ⟨hw1, hw2⟩ := hlt w List.mem_cons_self
    rw [popS, if_pos hw1]
    by_cases hwv : w = v
    · rw [if_pos hwv]
      subst hwv
      refine ⟨[], r, _, _, rfl, by simp, rfl, by simp, by simp, ?_, ?_⟩
      · intro x
        rw [getD_set inn w x _ _ hw2]
        simp
      · intro x
        rw [getD_set comp w x _ _ hw1]
        simp
    · rw [if_neg hwv]
      obtain ⟨pre, post, inn', comp', h1, h2, h3, h4, h5, h6, h7⟩ := popS_ok v cnt r (inn.set w false) (comp.set w cnt) (fun x hx => by
        simpa using hlt x (List.mem_cons.2 (.inr hx))) (by
        rcases List.mem_cons.1 hv with he | hv
        · exact absurd he.symm hwv
        · exact hv)
      refine ⟨w :: pre, post, inn', comp', by rw [h1]; rfl, fun hm => ?_, h3, by simpa using h4, by simpa using h5, ?_, ?_⟩
      · rcases List.mem_cons.1 hm with he | hm
        · exact hwv he.symm
        · exact h2 hm
      · intro x
        rw [h6, getD_set inn w x _ _ hw2]
        by_cases hx : x = w
        · simp [hx]
        · simp [hx]
      · intro x
        rw [h7, getD_set comp w x _ _ hw1]
        by_cases hx : x = w
        · simp [hx]
        · simp [hx]

section
variable {n : Nat} {out : List (List Nat)} {S : St}

theorem Inv.leaveNo {v u m' : Nat} {r : List (Nat × Nat)} (h : Inv n out S ((v, (out.getD v []).length) :: (u, m') :: r)) (hlow : S.low.getD v 0 ≠ S.idx.getD v 0) :
    Inv n out { S with low := S.low.set u (min (S.low.getD u 0) (S.low.getD v 0)) } ((u, m') :: r) := by
  have hvo : v ∈ S.opn := (h.wop _ List.mem_cons_self).1
  have huo : u ∈ S.opn := (h.wop (u, m') (by simp)).1
  have hun : u < n := (h.opm u huo).1
  have hl : ∀ y, (S.low.set u (min (S.low.getD u 0) (S.low.getD v 0))).getD y 0 = if y = u then min (S.low.getD u 0) (S.low.getD v 0) else S.low.getD y 0 := fun y => getD_set S.low u y _ _ (by rw [h.len.l]; exact hun)
  have hwp := h.wpw
  rw [List.pairwise_cons] at hwp
  have huv : S.idx.getD u 0 < S.idx.getD v 0 := hwp.1 (u, m') List.mem_cons_self
  have hvlt : S.low.getD v 0 < S.idx.getD v 0 := by have := (h.lo v hvo).1; omega
  have hin : ∀ p ∈ (u, m') :: r, p ∈ (v, (out.getD v []).length) :: (u, m') :: r := fun p hp => List.mem_cons.2 (.inr hp)
  have hexp : ∀ y j w, (out.getD y [])[j]? = some w → (∀ m, (y, m) ∈ (u, m') :: r → j < m) → ∀ m, (y, m) ∈ (v, (out.getD v []).length) :: (u, m') :: r → j < m := by
    intro y j w hw hj m hm
    rcases List.mem_cons.1 hm with he | hm
    · cases he
      exact (List.getElem?_eq_some_iff.1 hw).1
    · exact hj m hm
  refine ⟨h.len.low u _, h.tm, h.cl, ?_, h.ile, h.inj, h.opw, h.opm, h.inn, hwp.2, fun p hp => h.wop p (hin p hp), ?_, ?_, fun p hp => h.reach p (hin p hp), ?_, ?_, h.clo, h.cmp, h.cml⟩
  · have h1 := h.wl
    have h2 : ((u, m') :: r).length ≤ S.time := by rw [List.length_cons] at h1; omega
    exact h2
  · intro y hy
    show (S.low.set u _).getD y 0 ≤ _ ∧ ∃ w ∈ S.opn, S.idx.getD w 0 = (S.low.set u _).getD y 0 ∧ _
    rw [hl]
    split
    · rename_i hyu
      subst hyu
      obtain ⟨h1, a, ha, hai, har⟩ := h.lo y hy
      refine ⟨Nat.le_trans (Nat.min_le_left _ _) h1, ?_⟩
      rcases Nat.le_total (S.low.getD y 0) (S.low.getD v 0) with hle | hle
      · exact ⟨a, ha, by rw [hai]; omega, har⟩
      · obtain ⟨_, b, hb, hbi, hbr⟩ := h.lo v hvo
        exact ⟨b, hb, by rw [hbi]; omega, (h.reach (y, m') (by simp) v hvo (Nat.le_of_lt huv)).trans hbr⟩
    · exact h.lo y hy
  · intro y hy hnm
    show (S.low.set u _).getD y 0 < _
    rw [hl]
    split
    · rename_i hyu
      exact absurd (hyu ▸ List.mem_cons_self) (hnm m')
    · by_cases hyv : y = v
      · rw [hyv]; exact hvlt
      · refine h.fin y hy (fun m hm => ?_)
        rcases List.mem_cons.1 hm with he | hm
        · cases he; exact hyv rfl
        · exact hnm m hm
  · intro y hy j w hw hj
    exact h.ex y hy j w hw (hexp y j w hw hj)
  · intro y hy j w hw hj hwo p hp hpy hown
    show (S.low.set u _).getD p.1 0 ≤ S.idx.getD w 0
    have hj' := hexp y j w hw hj
    have hlow' : (S.low.set u (min (S.low.getD u 0) (S.low.getD v 0))).getD p.1 0 ≤ S.low.getD p.1 0 := by
      rw [hl]
      split
      · rename_i e; rw [e]; exact Nat.min_le_left _ _
      · exact Nat.le_refl _
    by_cases hyv : S.idx.getD v 0 ≤ S.idx.getD y 0
    · -- y stood above v: u is its owner now
      have h1 := hown (u, m') List.mem_cons_self (by show S.idx.getD u 0 ≤ S.idx.getD y 0; omega)
      have h2 : S.low.getD v 0 ≤ S.idx.getD w 0 := h.L y hy j w hw hj' hwo _ List.mem_cons_self hyv (fun q hq hle => by
        rcases List.mem_cons.1 hq with rfl | hq
        · exact Nat.le_refl _
        · exact Nat.le_of_lt (hwp.1 q hq))
      have h3 : S.idx.getD p.1 0 ≤ S.idx.getD u 0 := by
        rcases List.mem_cons.1 hp with rfl | hp
        · exact Nat.le_refl _
        · exact Nat.le_of_lt ((List.pairwise_cons.1 hwp.2).1 p hp)
      have h4 : p.1 = u := h.inj _ _ (by have h5 : S.idx.getD u 0 ≤ S.idx.getD p.1 0 := h1; omega) (h.opm p.1 (h.wop p (hin p hp)).1).2
      rw [hl, if_pos h4]
      omega
    · refine Nat.le_trans hlow' (h.L y hy j w hw hj' hwo p (hin p hp) hpy (fun q hq hle => ?_))
      rcases List.mem_cons.1 hq with rfl | hq
      · exact absurd hle hyv
      · exact hown q hq hle

theorem Inv.leaveYes {v : Nat} {r : List (Nat × Nat)} (h : Inv n out S ((v, (out.getD v []).length) :: r)) (hlow : S.low.getD v 0 = S.idx.getD v 0) :
    ∃ R, popS v S.cnt S.opn S.inn S.comp = some R ∧ Inv n out { S with opn := R.1, inn := R.2.1, comp := R.2.2, cnt := S.cnt + 1 } r ∧ (∀ p ∈ r, p.1 ∈ R.1) := by
  have hvo : v ∈ S.opn := (h.wop _ List.mem_cons_self).1
  obtain ⟨pre, post, inn', comp', h1, h2, h3, h4, h5, h6, h7⟩ := popS_ok v S.cnt S.opn S.inn S.comp (fun x hx => ⟨by rw [h.len.c]; exact (h.opm x hx).1, by rw [h.len.b]; exact (h.opm x hx).1⟩) hvo
  have hwp := h.wpw
  rw [List.pairwise_cons] at hwp
  have hop := h.opw
  rw [h1, List.pairwise_append, List.pairwise_cons] at hop
  obtain ⟨_, ⟨hpost, hpw⟩, hpre⟩ := hop
  have hprev : ∀ x ∈ pre, S.idx.getD v 0 < S.idx.getD x 0 := fun x hx => hpre x hx v List.mem_cons_self
  have hmem : ∀ x, x ∈ S.opn ↔ (x ∈ pre ∨ x = v) ∨ x ∈ post := fun x => by rw [h1, List.mem_append, List.mem_cons, or_assoc]
  have hpidx : ∀ x, (x ∈ pre ∨ x = v) → S.idx.getD v 0 ≤ S.idx.getD x 0 := fun x hx => by
    rcases hx with hx | rfl
    · exact Nat.le_of_lt (hprev x hx)
    · exact Nat.le_refl _
  have hpost' : ∀ x ∈ post, S.idx.getD x 0 < S.idx.getD v 0 := hpost
  have hpp : ∀ x ∈ post, ¬ (x ∈ pre ∨ x = v) := fun x hx hm => by have := hpidx x hm; have := hpost' x hx; omega
  have hin : ∀ p ∈ r, p ∈ (v, (out.getD v []).length) :: r := fun p hp => List.mem_cons.2 (.inr hp)
  have hrp : ∀ p ∈ r, p.1 ∈ post := fun p hp => by
    have h8 := hwp.1 p hp
    rcases (hmem p.1).1 (h.wop p (hin p hp)).1 with hm | hm
    · have := hpidx _ hm
      have h9 : S.idx.getD p.1 0 < S.idx.getD v 0 := h8
      omega
    · exact hm
  have hpo : ∀ x ∈ post, x ∈ S.opn := fun x hx => (hmem x).2 (.inr hx)
  have hexp : ∀ y j w, (out.getD y [])[j]? = some w → (∀ m, (y, m) ∈ r → j < m) → ∀ m, (y, m) ∈ (v, (out.getD v []).length) :: r → j < m := by
    intro y j w hw hj m hm
    rcases List.mem_cons.1 hm with he | hm
    · cases he
      exact (List.getElem?_eq_some_iff.1 hw).1
    · exact hj m hm
  -- the popped ones: their edges lead to what has been come to; if that is open, it is popped with them
  have hpopped : ∀ x, (x ∈ pre ∨ x = v) → ∀ w, Eg out x w → S.idx.getD w 0 ≠ 0 ∧ w ∉ post := by
    intro x hx w hw
    obtain ⟨j, hj⟩ := List.mem_iff_getElem?.1 hw
    have hxo : x ∈ S.opn := (hmem x).2 (.inl hx)
    have hxe : ∀ m, (x, m) ∈ (v, (out.getD v []).length) :: r → j < m := by
      refine hexp x j w hj (fun m hm => ?_)
      have h8 := hwp.1 (x, m) hm
      have h9 : S.idx.getD x 0 < S.idx.getD v 0 := h8
      have := hpidx x hx
      omega
    refine ⟨h.ex x (h.opm x hxo).2 j w hj hxe, fun hwp' => ?_⟩
    have hL := h.L x hxo j w hj hxe (hpo w hwp') _ List.mem_cons_self (hpidx x hx) (fun q hq hle => by
      rcases List.mem_cons.1 hq with rfl | hq
      · exact Nat.le_refl _
      · exact Nat.le_of_lt (hwp.1 q hq))
    have h8 := hpost' w hwp'
    have h9 : S.low.getD v 0 ≤ S.idx.getD w 0 := hL
    omega
  -- the set of the closed ones is closed under edges
  have hclosed : ∀ a b, Rch (Eg out) a b → (S.idx.getD a 0 ≠ 0 ∧ a ∉ S.opn) → S.idx.getD b 0 ≠ 0 ∧ b ∉ S.opn := fun a b hr ha =>
    hr.closed (C := fun x => S.idx.getD x 0 ≠ 0 ∧ x ∉ S.opn) (fun x y hx he => h.clo x hx.1 hx.2 y he) ha
  have hback : ∀ x, (x ∈ pre ∨ x = v) → Rch (Eg out) x v := by
    intro x hx
    obtain ⟨p, hp, hpi, hpr⟩ := h.back _ x ((hmem x).2 (.inl hx)) rfl
    refine hpr.trans (h.reach p hp v hvo ?_)
    rcases List.mem_cons.1 hp with rfl | hp
    · exact Nat.le_refl _
    · exact Nat.le_of_lt (hwp.1 p hp)
  have hforth : ∀ x, (x ∈ pre ∨ x = v) → Rch (Eg out) v x := fun x hx => h.reach _ List.mem_cons_self x ((hmem x).2 (.inl hx)) (hpidx x hx)
  have hcases : ∀ x, S.idx.getD x 0 ≠ 0 → x ∉ post → (x ∉ S.opn ∧ ¬ (x ∈ pre ∨ x = v)) ∨ (x ∈ pre ∨ x = v) := fun x hx hp => by
    by_cases hm : x ∈ pre ∨ x = v
    · exact .inr hm
    · exact .inl ⟨fun ho => ((hmem x).1 ho).elim hm hp, hm⟩
  refine ⟨_, h3, ⟨⟨h.len.i, h.len.l, h4.trans h.len.b, h5.trans h.len.c⟩, h.tm, ?_, ?_, h.ile, h.inj, hpw, fun x hx => h.opm x (hpo x hx), ?_, hwp.2, ?_, ?_, ?_, ?_, ?_, ?_, ?_, ?_, ?_⟩, hrp⟩
  · have := h.cl
    rw [h1] at this
    show S.cnt + 1 + post.length ≤ S.time
    simp only [List.length_append, List.length_cons] at this
    omega
  · have h8 := h.wl
    rw [List.length_cons] at h8
    show r.length ≤ S.time
    omega
  · intro x
    show inn'.getD x false = true ↔ x ∈ post
    rw [h6]
    split
    · rename_i hm
      simp only [Bool.false_eq_true, false_iff]
      exact fun hp => hpp x hp hm
    · rename_i hm
      rw [h.inn x, hmem]
      exact ⟨fun ho => ho.elim (fun h => absurd h hm) id, .inr⟩
  · exact fun p hp => ⟨hrp p hp, (h.wop p (hin p hp)).2⟩
  · intro x hx
    obtain ⟨g1, u, hu, hui, hur⟩ := h.lo x (hpo x hx)
    refine ⟨g1, u, ?_, hui, hur⟩
    rcases (hmem u).1 hu with hm | hm
    · have := hpidx u hm
      have := hpost' x hx
      omega
    · exact hm
  · intro x hx hnm
    refine h.fin x (hpo x hx) (fun m hm => ?_)
    rcases List.mem_cons.1 hm with he | hm
    · cases he
      exact hpp _ hx (.inr rfl)
    · exact hnm m hm
  · exact fun p hp x hx hle => h.reach p (hin p hp) x (hpo x hx) hle
  · exact fun x hx j w hw hj => h.ex x hx j w hw (hexp x j w hw hj)
  · intro x hx j w hw hj hwo p hp hpx hown
    refine h.L x (hpo x hx) j w hw (hexp x j w hw hj) (hpo w hwo) p (hin p hp) hpx (fun q hq hle => ?_)
    rcases List.mem_cons.1 hq with rfl | hq
    · have h8 : S.idx.getD v 0 ≤ S.idx.getD x 0 := hle
      have := hpost' x hx
      omega
    · exact hown q hq hle
  · intro x hx hxp w hw
    have hxp' : x ∉ post := hxp
    rcases hcases x hx hxp' with ⟨hm, _⟩ | hm
    · obtain ⟨g1, g2⟩ := h.clo x hx hm w hw
      exact ⟨g1, fun hp => g2 (hpo w hp)⟩
    · exact hpopped x hm w hw
  · intro x y hx hxp hy hyp
    show comp'.getD x 0 = comp'.getD y 0 ↔ _
    rw [h7, h7]
    rcases hcases x hx hxp with ⟨hmx, hnx⟩ | hmx
    · rw [if_neg hnx]
      rcases hcases y hy hyp with ⟨hmy, hny⟩ | hmy
      · rw [if_neg hny]
        exact h.cmp x y hx hmx hy hmy
      · rw [if_pos hmy]
        have g1 := h.cml x hx hmx
        constructor
        · intro he; omega
        · rintro ⟨g2, _⟩
          exact absurd ((hmem y).2 (.inl hmy)) (hclosed x y g2 ⟨hx, hmx⟩).2
    · rw [if_pos hmx]
      rcases hcases y hy hyp with ⟨hmy, hny⟩ | hmy
      · rw [if_neg hny]
        have g1 := h.cml y hy hmy
        constructor
        · intro he; omega
        · rintro ⟨_, g2⟩
          exact absurd ((hmem x).2 (.inl hmx)) (hclosed y x g2 ⟨hy, hmy⟩).2
      · rw [if_pos hmy]
        exact ⟨fun _ => ⟨(hback x hmx).trans (hforth y hmy), (hback y hmy).trans (hforth x hmx)⟩, fun _ => rfl⟩
  · intro x hx hxp
    show comp'.getD x 0 < S.cnt + 1
    rw [h7]
    rcases hcases x hx hxp with ⟨hmx, hnx⟩ | hmx
    · rw [if_neg hnx]
      have := h.cml x hx hmx
      omega
    · rw [if_pos hmx]; omega

end

end Go.Proofs.Ytgihncjllelonaa.Tj

/- Tarjan's search ends, and tells the components. -/
namespace Go.Proofs.Ytgihncjllelonaa.Tj

def unv (n : Nat) (out : List (List Nat)) (idx : List Nat) : Nat := ((List.range n).map fun v => if idx.getD v 0 = 0 then (out.getD v []).length + 1 else 0).sum
def wayM (out : List (List Nat)) (way : List (Nat × Nat)) : Nat := (way.map fun p => (out.getD p.1 []).length - p.2 + 1).sum

theorem sum_range_one (f g : Nat → Nat) (w a : Nat) : ∀ n, w < n → f w = g w + a → (∀ x, x ≠ w → f x = g x) → ((List.range n).map f).sum = ((List.range n).map g).sum + a
  | 0, h, _, _ => by omega
  | n + 1, h, hw, hx => by
    have same : ∀ m, m ≤ w → ((List.range m).map f).sum = ((List.range m).map g).sum := fun m hm => by
      congr 1
      apply List.map_congr_left
      intro x hxm
      exact hx x (by have := List.mem_range.1 hxm; omega)
    rw [List.range_succ, List.map_append, List.map_append, List.sum_append, List.sum_append]
    simp only [List.map_cons, List.map_nil, List.sum_cons, List.sum_nil]
    by_cases he : n = w
    · subst he
      rw [same n (Nat.le_refl _), hw]
      omega
    · rw [sum_range_one f g w a n (by omega) hw hx, hx n he]
      omega

theorem unv_enter {n : Nat} {out : List (List Nat)} {S : St} {w : Nat} (hw : w < n) (hl : w < S.idx.length) (h0 : S.idx.getD w 0 = 0) : unv n out S.idx = unv n out (enterS S w).idx + ((out.getD w []).length + 1) := by
  refine sum_range_one _ _ w _ n hw ?_ ?_
  · show _ = (if (S.idx.set w (S.time + 1)).getD w 0 = 0 then _ else 0) + _
    rw [getD_set S.idx w w _ _ hl, if_pos rfl, if_pos h0, if_neg (by omega)]
    omega
  · intro x hx
    show _ = if (S.idx.set w (S.time + 1)).getD x 0 = 0 then _ else 0
    rw [getD_set S.idx w x _ _ hl, if_neg hx]

theorem set_getD_self (l : List Nat) (u : Nat) : l.set u (l.getD u 0) = l := by
  apply List.ext_getElem?
  intro i
  rw [List.getElem?_set]
  split
  · rename_i h
    subst h
    split
    · rename_i hl
      rw [List.getD_eq_getElem?_getD, List.getElem?_eq_getElem hl]
      rfl
    · rename_i hl
      rw [List.getElem?_eq_none (by omega)]
  · rfl

theorem Inv.time_lt {n : Nat} {out : List (List Nat)} {S : St} {way : List (Nat × Nat)} (h : Inv n out S way) {w : Nat} (hw : w < n) (h0 : S.idx.getD w 0 = 0) : S.time < n := by
  have hwl : w < S.idx.length := by rw [h.len.i]; exact hw
  have h1 : S.idx[w]'hwl = 0 := by rw [List.getD_eq_getElem?_getD, List.getElem?_eq_getElem hwl] at h0; exact h0
  have h2 : 0 < S.idx.count 0 := List.count_pos_iff.2 (h1 ▸ List.getElem_mem hwl)
  have h4 := h.tm
  omega

theorem from_ok {n : Nat} {out : List (List Nat)} (hn : n ≤ 1000000) (hE : ∀ u v, Eg out u v → v < n) : ∀ (k : Nat) (S : St) (way : List (Nat × Nat)), Inv n out S way → unv n out S.idx + wayM out way < k →
    ∃ R, fromS n out k S way = some R ∧ Inv n out R [] ∧ (∀ x, S.idx.getD x 0 ≠ 0 → R.idx.getD x 0 ≠ 0) ∧ unv n out R.idx ≤ unv n out S.idx
  | 0, _, _, _, hk => by omega
  | k + 1, S, [], h, hk => ⟨S, by simp only [fromS], h, fun _ h => h, Nat.le_refl _⟩
  | k + 1, S, (v, m) :: r, h, hk => by
    have hvo : v ∈ S.opn := (h.wop _ List.mem_cons_self).1
    have hvn : v < n := (h.opm v hvo).1
    have hml : m ≤ (out.getD v []).length := (h.wop _ List.mem_cons_self).2
    have hwm : wayM out ((v, m) :: r) = ((out.getD v []).length - m + 1) + wayM out r := by simp [wayM]
    have htn : S.time ≤ n := by have := h.tm; omega
    simp only [fromS]
    rw [if_pos hvn]
    by_cases hm : m = (out.getD v []).length
    · rw [if_pos hm]
      subst hm
      by_cases hlow : S.low.getD v 0 = S.idx.getD v 0
      · obtain ⟨R1, hp, hI, hr⟩ := h.leaveYes hlow
        have hcl := h.cl
        have hol : 0 < S.opn.length := List.length_pos_of_mem hvo
        have hlv : leaveS S v = some { S with opn := R1.1, inn := R1.2.1, comp := R1.2.2, cnt := S.cnt + 1 } := by
          unfold leaveS
          rw [if_pos hlow, if_pos (by omega), hp]
          rfl
        rw [hlv, Option.bind_some]
        cases r with
        | nil =>
          obtain ⟨R, g1, g2, g3, g4⟩ := from_ok hn hE k _ [] hI (by show unv n out S.idx + wayM out [] < k; have : wayM out [] = 0 := rfl; omega)
          exact ⟨R, g1, g2, g3, g4⟩
        | cons p r =>
          obtain ⟨u, m'⟩ := p
          have huo : u ∈ S.opn := (h.wop (u, m') (by simp)).1
          dsimp only
          rw [if_pos (h.opm u huo).1]
          have huv : S.idx.getD u 0 < S.idx.getD v 0 := (List.pairwise_cons.1 h.wpw).1 (u, m') List.mem_cons_self
          have hmin : min (S.low.getD u 0) (S.low.getD v 0) = S.low.getD u 0 := by have := (h.lo u huo).1; omega
          rw [hmin, set_getD_self]
          obtain ⟨R, g1, g2, g3, g4⟩ := from_ok hn hE k _ ((u, m') :: r) hI (by show unv n out S.idx + wayM out ((u, m') :: r) < k; omega)
          exact ⟨R, g1, g2, g3, g4⟩
      · have hlv : leaveS S v = some S := by
          unfold leaveS
          rw [if_neg hlow]
        rw [hlv, Option.bind_some]
        cases r with
        | nil =>
          exfalso
          obtain ⟨h1, y, hy, hyi, _⟩ := h.lo v hvo
          obtain ⟨p, hp, hpi, _⟩ := h.back _ y hy rfl
          rcases List.mem_cons.1 hp with rfl | hp
          · have h2 : S.idx.getD v 0 ≤ S.idx.getD y 0 := hpi
            omega
          · simp at hp
        | cons p r =>
          obtain ⟨u, m'⟩ := p
          have huo : u ∈ S.opn := (h.wop (u, m') (by simp)).1
          dsimp only
          rw [if_pos (h.opm u huo).1]
          obtain ⟨R, g1, g2, g3, g4⟩ := from_ok hn hE k _ ((u, m') :: r) (h.leaveNo hlow) (by show unv n out S.idx + wayM out ((u, m') :: r) < k; omega)
          exact ⟨R, g1, g2, g3, g4⟩
    · have hlt : m < (out.getD v []).length := by omega
      rw [if_neg hm, if_pos hlt]
      obtain ⟨w, hw⟩ : ∃ w, (out.getD v [])[m]? = some w := ⟨_, List.getElem?_eq_getElem hlt⟩
      have hwd : (out.getD v []).getD m 0 = w := by rw [List.getD_eq_getElem?_getD, hw]; rfl
      have hwn : w < n := hE v w (List.mem_of_getElem? hw)
      rw [hwd, if_pos hwn]
      have hwm2 : wayM out ((v, m + 1) :: r) = ((out.getD v []).length - (m + 1) + 1) + wayM out r := by simp [wayM]
      by_cases h0 : S.idx.getD w 0 = 0
      · have htl := h.time_lt hwn h0
        have hcl := h.cl
        have hwl := h.wl
        rw [List.length_cons] at hwl
        rw [if_pos h0, if_pos (by omega)]
        have hue := unv_enter (out := out) hwn (by rw [h.len.i]; exact hwn) h0
        have hwm3 : wayM out ((w, 0) :: (v, m + 1) :: r) = ((out.getD w []).length + 1) + wayM out ((v, m + 1) :: r) := by simp [wayM]
        obtain ⟨R, g1, g2, g3, g4⟩ := from_ok hn hE k _ ((w, 0) :: (v, m + 1) :: r) (h.enter hwn h0 (.inr ⟨v, m, r, rfl, rfl, hw⟩)) (by omega)
        refine ⟨R, g1, g2, fun x hx => g3 x ?_, by omega⟩
        show (S.idx.set w (S.time + 1)).getD x 0 ≠ 0
        rw [getD_set S.idx w x _ _ (by rw [h.len.i]; exact hwn)]
        split
        · omega
        · exact hx
      · rw [if_neg h0]
        by_cases hi : S.inn.getD w false = true
        · rw [if_pos hi]
          obtain ⟨R, g1, g2, g3, g4⟩ := from_ok hn hE k _ ((v, m + 1) :: r) (h.look hw h0 (.inl ⟨(h.inn w).1 hi, rfl⟩)) (by show unv n out S.idx + _ < k; omega)
          exact ⟨R, g1, g2, g3, g4⟩
        · rw [if_neg hi]
          have hL := h.look hw h0 (.inr ⟨fun ho => hi ((h.inn w).2 ho), rfl⟩)
          rw [set_getD_self] at hL
          obtain ⟨R, g1, g2, g3, g4⟩ := from_ok hn hE k S ((v, m + 1) :: r) hL (by omega)
          exact ⟨R, g1, g2, g3, g4⟩

theorem scan_ok {n : Nat} {out : List (List Nat)} (hn : n ≤ 1000000) (hE : ∀ u v, Eg out u v → v < n) {k : Nat} : ∀ (l : List Nat) (S : St), Inv n out S [] → (∀ v ∈ l, v < n) → unv n out S.idx < k →
    ∃ R, scanS n out k l S = some R ∧ Inv n out R [] ∧ (∀ x, S.idx.getD x 0 ≠ 0 → R.idx.getD x 0 ≠ 0) ∧ ∀ v ∈ l, R.idx.getD v 0 ≠ 0
  | [], S, h, _, _ => ⟨S, rfl, h, fun _ h => h, by simp⟩
  | v :: r, S, h, hl, hk => by
    have hvn := hl v List.mem_cons_self
    rw [scanS]
    by_cases h0 : S.idx.getD v 0 = 0
    · have htl := h.time_lt hvn h0
      have hcl := h.cl
      rw [if_pos h0, if_pos (by omega)]
      have hue := unv_enter (out := out) hvn (by rw [h.len.i]; exact hvn) h0
      have hwm : wayM out [(v, 0)] = (out.getD v []).length + 1 := by simp [wayM]
      obtain ⟨S2, g1, g2, g3, g4⟩ := from_ok hn hE k _ [(v, 0)] (h.enter hvn h0 (.inl ⟨rfl, rfl⟩)) (by omega)
      rw [g1, Option.bind_some]
      obtain ⟨R, e1, e2, e3, e4⟩ := scan_ok (k := k) hn hE r S2 g2 (fun x hx => hl x (List.mem_cons.2 (.inr hx))) (by omega)
      have hget : ∀ x, (enterS S v).idx.getD x 0 = if x = v then S.time + 1 else S.idx.getD x 0 := fun x => getD_set S.idx v x _ _ (by rw [h.len.i]; exact hvn)
      refine ⟨R, e1, e2, fun x hx => e3 x (g3 x ?_), fun x hx => ?_⟩
      · rw [hget]
        split
        · omega
        · exact hx
      · rcases List.mem_cons.1 hx with rfl | hx
        · exact e3 x (g3 x (by rw [hget, if_pos rfl]; omega))
        · exact e4 x hx
    · rw [if_neg h0]
      obtain ⟨R, e1, e2, e3, e4⟩ := scan_ok (k := k) hn hE r S h (fun x hx => hl x (List.mem_cons.2 (.inr hx))) hk
      refine ⟨R, e1, e2, e3, fun x hx => ?_⟩
      rcases List.mem_cons.1 hx with rfl | hx
      · exact e3 x h0
      · exact e4 x hx

def fo : List Nat → Nat → Option Nat
  | [], m => some m
  | c :: r, m => if c < m then fo r m else if c = m then fo r (m + 1) else none

theorem renum_ok : ∀ (comp number : List Nat) (next : Nat), (∀ c ∈ comp, c < number.length) → (∀ c, number.getD c 0 ≤ next) → (∀ c d, number.getD c 0 = number.getD d 0 → number.getD c 0 ≠ 0 → c = d) → next + comp.length ≤ 1000000 →
    ∃ (N : Nat → Nat) (nx : Nat), (∀ c, number.getD c 0 ≠ 0 → N c = number.getD c 0) ∧ (∀ c d, N c = N d → N c ≠ 0 → c = d) ∧ (∀ c ∈ comp, N c ≠ 0) ∧ renum comp number next = some (comp.map (fun c => N c - 1), nx) ∧ fo (comp.map (fun c => N c - 1)) next = some nx
  | [], number, next, _, _, h3, _ => ⟨fun c => number.getD c 0, next, fun _ _ => rfl, h3, by simp, rfl, rfl⟩
  | c :: r, number, next, h1, h2, h3, h4 => by
    have hc := h1 c List.mem_cons_self
    rw [List.length_cons] at h4
    have hnc := h2 c
    rw [renum, if_pos ⟨hc, by omega, by omega⟩]
    by_cases h0 : number.getD c 0 = 0
    · rw [if_pos h0]
      have hs : ∀ d, (number.set c (next + 1)).getD d 0 = if d = c then next + 1 else number.getD d 0 := fun d => getD_set number c d _ _ hc
      obtain ⟨N, nx, g1, g2, g3, g4, g5⟩ := renum_ok r (number.set c (next + 1)) (next + 1) (fun d hd => by rw [List.length_set]; exact h1 d (List.mem_cons.2 (.inr hd))) (fun d => by
        rw [hs]
        have := h2 d
        split <;> omega) (fun d e he hd => by
        rw [hs, hs] at he
        rw [hs] at hd
        have a1 := h2 d
        have a2 := h2 e
        by_cases e1 : d = c
        · by_cases e2 : e = c
          · rw [e1, e2]
          · rw [if_pos e1, if_neg e2] at he; omega
        · by_cases e2 : e = c
          · rw [if_neg e1, if_pos e2] at he; omega
          · rw [if_neg e1, if_neg e2] at he
            rw [if_neg e1] at hd
            exact h3 d e he hd) (by omega)
      have hNc : N c = next + 1 := by
        have := g1 c (by rw [hs, if_pos rfl]; omega)
        rw [this, hs, if_pos rfl]
      refine ⟨N, nx, fun d hd => ?_, g2, fun d hd => ?_, ?_, ?_⟩
      · have hdc : d ≠ c := fun e => hd (e ▸ h0)
        have := g1 d (by rw [hs, if_neg hdc]; exact hd)
        rw [this, hs, if_neg hdc]
      · rcases List.mem_cons.1 hd with rfl | hd
        · omega
        · exact g3 d hd
      · rw [g4]
        simp [hNc]
      · rw [List.map_cons, hNc, fo, if_neg (by omega), if_pos (by omega)]
        exact g5
    · rw [if_neg h0]
      obtain ⟨N, nx, g1, g2, g3, g4, g5⟩ := renum_ok r number next (fun d hd => h1 d (List.mem_cons.2 (.inr hd))) h2 h3 (by omega)
      have hNc := g1 c h0
      refine ⟨N, nx, g1, g2, fun d hd => ?_, ?_, ?_⟩
      · rcases List.mem_cons.1 hd with rfl | hd
        · omega
        · exact g3 d hd
      · rw [g4]
        simp [hNc]
      · rw [List.map_cons, hNc, fo, if_pos (by omega)]
        exact g5

def IsComps (n : Nat) (out : List (List Nat)) (comp : List Nat) (next : Nat) : Prop :=
  comp.length = n ∧ fo comp 0 = some next ∧ ∀ x y, x < n → y < n → (comp.getD x 0 = comp.getD y 0 ↔ Rch (Eg out) x y ∧ Rch (Eg out) y x)

theorem comps_ok {n : Nat} {out : List (List Nat)} (hn : n ≤ 1000000) (hE : ∀ u v, Eg out u v → v < n) {k : Nat} (hk : unv n out (List.replicate n 0) < k) : ∃ comp next, compsS n out k = some (comp, next) ∧ IsComps n out comp next := by
  obtain ⟨S, e1, e2, _, e4⟩ := scan_ok (k := k) hn hE (List.range n) (st0 n) (Inv.st0 n out) (fun v hv => List.mem_range.1 hv) hk
  unfold compsS
  rw [e1, Option.bind_some]
  have hop : ∀ x, x ∉ S.opn := fun x hx => by
    obtain ⟨p, hp, _⟩ := e2.back _ x hx rfl
    simp at hp
  have hvis : ∀ x, x < n → S.idx.getD x 0 ≠ 0 := fun x hx => e4 x (List.mem_range.2 hx)
  have hcn : S.cnt ≤ n := by have := e2.cl; have := e2.tm; omega
  have hlen := e2.len.c
  obtain ⟨N, nx, _, g2, g3, g4, g5⟩ := renum_ok S.comp (List.replicate n 0) 0 (fun c hc => by
    obtain ⟨i, hi, rfl⟩ := List.mem_iff_getElem.1 hc
    have := e2.cml i (hvis i (by omega)) (hop i)
    rw [List.getD_eq_getElem?_getD, List.getElem?_eq_getElem hi] at this
    simp only [Option.getD_some] at this
    rw [List.length_replicate]
    omega) (fun c => by
    rw [List.getD_eq_getElem?_getD, List.getElem?_replicate]
    split <;> simp) (fun c d _ hc => by
    rw [List.getD_eq_getElem?_getD, List.getElem?_replicate] at hc
    split at hc <;> simp at hc) (by omega)
  refine ⟨_, _, g4, by simp [hlen], g5, fun x y hx hy => ?_⟩
  rw [← e2.cmp x y (hvis x hx) (hop x) (hvis y hy) (hop y)]
  have hxl : x < S.comp.length := by omega
  have hyl : y < S.comp.length := by omega
  rw [List.getD_eq_getElem?_getD, List.getD_eq_getElem?_getD, List.getD_eq_getElem?_getD, List.getD_eq_getElem?_getD, List.getElem?_map, List.getElem?_map, List.getElem?_eq_getElem hxl, List.getElem?_eq_getElem hyl]
  simp only [Option.map_some, Option.getD_some]
  have n1 := g3 _ (List.getElem_mem hxl)
  have n2 := g3 _ (List.getElem_mem hyl)
  constructor
  · intro he
    exact g2 _ _ (by omega) n1
  · intro he
    rw [he]

end Go.Proofs.Ytgihncjllelonaa.Tj
