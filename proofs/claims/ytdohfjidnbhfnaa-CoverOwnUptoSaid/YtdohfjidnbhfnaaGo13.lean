/- What scc's three functions answer, told by the sorted vertices and the relation of their edges alone. -/
import Derived.Test.YtdohfjidnbhfnaaGo12
import Derived.Test.YtdohfjidnbhfnaaGo4
import Derived.Test.YtdohfjidnbhfnaaGo10
namespace Go.Proofs.Ytdohfjidnbhfnaa.Tj
set_option linter.unusedSimpArgs false
set_option linter.unusedVariables false

theorem compact_len {sl : List Int} (hs : sl.Pairwise (· ≤ ·)) : (Lib.compact sl).length = sl.length ↔ sl.Nodup := by
  unfold Lib.compact Lib.compactUpTo
  rw [List.length_map]
  have h1 : ((List.range sl.length).filter (Lib.keeps sl.toArray)).length = sl.length ↔ ∀ j ∈ List.range sl.length, Lib.keeps sl.toArray j = true := by
    have := @List.length_filter_eq_length_iff Nat (Lib.keeps sl.toArray) (List.range sl.length)
    rw [List.length_range] at this
    exact this
  rw [h1]
  have hk : ∀ j (hj : j < sl.length), 0 < j → (Lib.keeps sl.toArray j = true ↔ sl[j] ≠ sl[j - 1]'(by omega)) := by
    intro j hj h0
    have e1 : sl.toArray[j]! = sl[j] := by simp [hj]
    have e2 : sl.toArray[j - 1]! = sl[j - 1]'(by omega) := by simp [show j - 1 < sl.length by omega]
    rw [Lib.keeps, e1, e2]
    simp [show j ≠ 0 by omega]
  constructor
  · intro h
    rw [List.nodup_iff_pairwise_ne, List.pairwise_iff_getElem]
    intro i j hi hj hij
    have h2 := (hk j hj (by omega)).1 (h j (List.mem_range.2 hj))
    have h3 : sl[j - 1]'(by omega) ≤ sl[j] := List.pairwise_iff_getElem.1 hs (j - 1) j (by omega) hj (by omega)
    have h4 : sl[i] ≤ sl[j - 1]'(by omega) := by
      rcases Nat.lt_or_ge i (j - 1) with h5 | h5
      · exact List.pairwise_iff_getElem.1 hs i (j - 1) hi (by omega) h5
      · have : i = j - 1 := by omega
        subst this
        exact Int.le_refl _
    omega
  · intro h j hj
    have hj := List.mem_range.1 hj
    rcases Nat.eq_zero_or_pos j with rfl | h0
    · simp [Lib.keeps]
    · rw [hk j hj h0]
      rw [List.nodup_iff_pairwise_ne, List.pairwise_iff_getElem] at h
      exact fun e => h (j - 1) j (by omega) hj (by omega) e.symm

def place (sl : List Int) (x : Int) : Nat := sl.countP (· < x)

def PE (sl : List Int) (arcs : List (Int × Int)) (u v : Nat) : Prop := ∃ p ∈ arcs, place sl p.1 = u ∧ place sl p.2 = v

def good (sl : List Int) (arcs : List (Int × Int)) : Bool := arcs.all fun p => sl.contains p.1 && sl.contains p.2

theorem arcsS_bad {sl : List Int} : ∀ (arcs : List (Int × Int)) (out : List (List Nat)), good sl arcs = false → arcsS sl arcs out = none
  | [], _, h => by simp [good] at h
  | (u, v) :: r, out, h => by
    rw [arcsS]
    split
    · rename_i hc
      refine arcsS_bad r _ ?_
      simp only [good, List.all_cons, hc.1, hc.2, Bool.and_self, Bool.true_and] at h
      exact h
    · rfl

theorem rowsM_set {out : List (List Nat)} {n i x : Nat} (hi : i < n) (hl : i < out.length) : rowsM (out.set i (out.getD i [] ++ [x])) n = rowsM out n + 1 := by
  refine sum_range_one _ _ i 1 n hi ?_ ?_
  · rw [getD_set out i i _ _ hl, if_pos rfl, List.length_append, List.length_singleton]
  · intro y hy
    rw [getD_set out i y _ _ hl, if_neg hy]

theorem arcsS_good {sl : List Int} {n : Nat} (hn : sl.length = n) : ∀ (arcs : List (Int × Int)) (out : List (List Nat)), out.length = n → good sl arcs = true →
    ∃ o, arcsS sl arcs out = some o ∧ o.length = n ∧ rowsM o n = rowsM out n + arcs.length ∧ ∀ u v, Eg o u v ↔ Eg out u v ∨ PE sl arcs u v
  | [], out, hl, _ => ⟨out, rfl, hl, rfl, fun u v => by simp [PE]⟩
  | (a, b) :: r, out, hl, h => by
    simp only [good, List.all_cons, Bool.and_eq_true] at h
    obtain ⟨⟨h1, h2⟩, h3⟩ := h
    have hpl := countP_lt h1
    rw [arcsS, if_pos ⟨h1, h2⟩]
    obtain ⟨o, g1, g2, g3, g4⟩ := arcsS_good hn r (out.set (place sl a) (out.getD (place sl a) [] ++ [place sl b])) (by simpa using hl) h3
    refine ⟨o, g1, g2, ?_, fun u v => ?_⟩
    · rw [g3, rowsM_set (by unfold place; omega) (by unfold place; omega), List.length_cons]
      omega
    · rw [g4]
      unfold Eg
      rw [getD_set out _ u _ _ (by unfold place; omega)]
      constructor
      · rintro (he | ⟨p, hp, e⟩)
        · split at he
          · rename_i hu
            rcases List.mem_append.1 he with he | he
            · rw [hu]; exact .inl he
            · have : v = place sl b := by simpa using he
              exact .inr ⟨(a, b), List.mem_cons_self, hu.symm, this.symm⟩
          · exact .inl he
        · exact .inr ⟨p, List.mem_cons.2 (.inr hp), e⟩
      · rintro (he | ⟨p, hp, e1, e2⟩)
        · left
          split
          · rename_i hu
            rw [← hu]
            exact List.mem_append.2 (.inl he)
          · exact he
        · rcases List.mem_cons.1 hp with rfl | hp
          · left
            rw [if_pos e1.symm]
            exact List.mem_append.2 (.inr (by simp [e2]))
          · exact .inr ⟨p, hp, e1, e2⟩

def grpZ (comp : List Nat) (sl : List Int) (c : Nat) : List Int := ((comp.zip sl).filter fun p => decide (p.1 = c)).map Prod.snd

theorem ext_getD {α : Type} {d : α} {a b : List α} (hl : a.length = b.length) (h : ∀ i, i < a.length → a.getD i d = b.getD i d) : a = b := by
  apply List.ext_getElem hl
  intro i h1 h2
  have := h i h1
  rw [List.getD_eq_getElem?_getD, List.getD_eq_getElem?_getD, List.getElem?_eq_getElem h1, List.getElem?_eq_getElem h2] at this
  exact this

def CompOf (n : Nat) (E : Nat → Nat → Prop) (comp : List Nat) (m : Nat) : Prop :=
  comp.length = n ∧ fo comp 0 = some m ∧ ∀ x y, x < n → y < n → (comp.getD x 0 = comp.getD y 0 ↔ Rch E x y ∧ Rch E y x)

def ofL (comp : List Nat) (sl : List Int) (m : Nat) : List (List Int) := (List.range m).map (grpZ comp sl)

theorem unv_zero (n : Nat) (out : List (List Nat)) : unv n out (List.replicate n 0) = rowsM out n + n := by
  have h : ∀ v, (List.replicate n 0).getD v 0 = 0 := fun v => by
    rw [List.getD_eq_getElem?_getD, List.getElem?_replicate]
    split <;> rfl
  unfold unv rowsM
  simp only [h, if_true]
  have : ∀ m, ((List.range m).map fun v => (out.getD v []).length + 1).sum = ((List.range m).map fun v => (out.getD v []).length).sum + m := fun m => by
    induction m with
    | zero => rfl
    | succ m ih => simp [List.range_succ] at *; omega
  exact this n

theorem CompOf.congr {n m : Nat} {E E' : Nat → Nat → Prop} {comp : List Nat} (h : CompOf n E comp m) (hE : ∀ u v, E u v ↔ E' u v) : CompOf n E' comp m := by
  have : E = E' := by funext u v; exact propext (hE u v)
  exact this ▸ h

end Go.Proofs.Ytdohfjidnbhfnaa.Tj

/- What scc's three functions answer: the models' answers. -/
namespace Go.Proofs.Ytdohfjidnbhfnaa.Tj

theorem exists_min {R : Nat → Nat → Prop} (ht : ∀ a b c, R a b → R b c → R a c) (ha : ∀ a b, R a b → R b a → a = b) : ∀ U : List Nat, U ≠ [] → ∃ c ∈ U, ∀ d ∈ U, R d c → d = c
  | [], h => absurd rfl h
  | [a], _ => ⟨a, List.mem_cons_self, fun d hd _ => by simpa using hd⟩
  | a :: b :: U, _ => by
    obtain ⟨c, hc, hm⟩ := exists_min ht ha (b :: U) (by simp)
    by_cases hac : R a c
    · refine ⟨a, List.mem_cons_self, fun d hd hda => ?_⟩
      rcases List.mem_cons.1 hd with rfl | hd
      · rfl
      · have h1 := hm d hd (ht _ _ _ hda hac)
        subst h1
        exact ha _ _ hda hac
    · refine ⟨c, List.mem_cons.2 (.inr hc), fun d hd hdc => ?_⟩
      rcases List.mem_cons.1 hd with rfl | hd
      · exact absurd hdc hac
      · exact hm d hd hdc

theorem fo_mem : ∀ (l : List Nat) (k m : Nat), fo l k = some m → ∀ c, k ≤ c → c < m → c ∈ l
  | [], k, m, h, c, h1, h2 => by cases h; omega
  | x :: r, k, m, h, c, h1, h2 => by
    rw [fo] at h
    split at h
    · exact List.mem_cons.2 (.inr (fo_mem r k m h c h1 h2))
    · split at h
      · rename_i hx
        by_cases hc : c = k
        · exact List.mem_cons.2 (.inl (by omega))
        · exact List.mem_cons.2 (.inr (fo_mem r (k + 1) m h c (by omega) h2))
      · cases h
theorem fo_le : ∀ (l : List Nat) (k m : Nat), fo l k = some m → m ≤ k + l.length
  | [], k, m, h => by cases h; simp
  | x :: r, k, m, h => by
    rw [fo] at h
    split at h
    · have := fo_le r k m h
      rw [List.length_cons]; omega
    · split at h
      · have := fo_le r (k + 1) m h
        rw [List.length_cons]; omega
      · cases h

theorem first_occ (c : Nat) : ∀ l : List Nat, c ∈ l → ∃ v, v < l.length ∧ l.getD v 0 = c ∧ ∀ u, u < v → l.getD u 0 ≠ c
  | x :: r, h => by
    by_cases hx : x = c
    · exact ⟨0, by simp, by simpa using hx, fun u hu => by omega⟩
    · obtain ⟨v, h1, h2, h3⟩ := first_occ c r (by
        rcases List.mem_cons.1 h with he | h
        · exact absurd he.symm hx
        · exact h)
      refine ⟨v + 1, by simpa using h1, by simpa using h2, fun u hu => ?_⟩
      cases u with
      | zero => simpa using hx
      | succ u => simpa using h3 u (by omega)

theorem grpZ_head (c : Nat) : ∀ (comp : List Nat) (sl : List Int) (v : Nat), comp.length = sl.length → v < comp.length → comp.getD v 0 = c → (∀ u, u < v → comp.getD u 0 ≠ c) → (grpZ comp sl c).headD 0 = sl.getD v 0
  | [], _, v, _, h, _, _ => by simp at h
  | _ :: _, [], _, h, _, _, _ => by simp at h
  | x :: r, y :: s, 0, _, _, h, _ => by
    have hx : x = c := by simpa using h
    simp [grpZ, List.zip_cons_cons, hx]
  | x :: r, y :: s, v + 1, hl, hv, h, hu => by
    have hx : ¬ x = c := by simpa using hu 0 (by omega)
    have := grpZ_head c r s v (by simpa using hl) (by simpa using hv) (by simpa using h) (fun u hlt => by simpa using hu (u + 1) (by omega))
    simp only [grpZ, List.zip_cons_cons, List.getD_cons_succ] at *
    rw [List.filter_cons_of_neg (by simpa using hx)]
    exact this

def Arc (n : Nat) (E : Nat → Nat → Prop) (comp : List Nat) (d x : Nat) : Prop := x ≠ d ∧ ∃ v w, v < n ∧ E v w ∧ comp.getD v 0 = d ∧ comp.getD w 0 = x

def IsOrder (A : Nat → Nat → Prop) (m : Nat) (F : List Nat) : Prop :=
  (∀ P c Q, F = P ++ c :: Q → c < m ∧ c ∉ P ∧ (∀ d, d < m → d ∉ P → ¬ A d c) ∧ ∀ c', c' < c → c' ∉ P → ∃ d, d < m ∧ d ∉ P ∧ A d c') ∧ (∀ x, x < m → x ∈ F) ∧ F.length = m

theorem CompOf.min {n m : Nat} {E : Nat → Nat → Prop} {comp : List Nat} (h : CompOf n E comp m) (hE : ∀ u v, E u v → v < n) (T : List Nat) (hT : ∃ x, x < m ∧ x ∉ T) : ∃ c, c < m ∧ c ∉ T ∧ ∀ d, d < m → d ∉ T → ¬ Arc n E comp d c := by
  obtain ⟨hl, hf, hk⟩ := h
  obtain ⟨x, hx, hxT⟩ := hT
  let R : Nat → Nat → Prop := fun d c => ∃ v w, v < n ∧ w < n ∧ comp.getD v 0 = d ∧ comp.getD w 0 = c ∧ Rch E v w
  have ht : ∀ a b c, R a b → R b c → R a c := by
    rintro a b c ⟨v, w, h1, h2, h3, h4, h5⟩ ⟨v', w', g1, g2, g3, g4, g5⟩
    have := ((hk w v' h2 g1).1 (h4.trans g3.symm)).1
    exact ⟨v, w', h1, g2, h3, g4, (h5.trans this).trans g5⟩
  have ha : ∀ a b, R a b → R b a → a = b := by
    rintro a b ⟨v, w, h1, h2, h3, h4, h5⟩ ⟨v', w', g1, g2, g3, g4, g5⟩
    have e1 := ((hk w v' h2 g1).1 (h4.trans g3.symm)).1
    have e2 := ((hk w' v g2 h1).1 (g4.trans h3.symm)).1
    rw [← h3, ← h4]
    exact (hk v w h1 h2).2 ⟨h5, (e1.trans g5).trans e2⟩
  obtain ⟨c, hc, hmin⟩ := exists_min ht ha ((List.range m).filter fun d => decide (d ∉ T)) (by
    intro he
    have : x ∈ (List.range m).filter fun d => decide (d ∉ T) := by simp [hx, hxT]
    rw [he] at this
    simp at this)
  simp only [List.mem_filter, List.mem_range, decide_eq_true_eq] at hc hmin
  refine ⟨c, hc.1, hc.2, fun d hd hdT hA => ?_⟩
  obtain ⟨hne, v, w, h1, h2, h3, h4⟩ := hA
  exact hne (hmin d ⟨hd, hdT⟩ ⟨v, w, h1, hE v w h2, h3, h4, .one h2⟩).symm

theorem PE_lt {sl : List Int} {arcs : List (Int × Int)} (h : good sl arcs = true) {u v : Nat} (hp : PE sl arcs u v) : u < sl.length ∧ v < sl.length := by
  obtain ⟨p, hp, rfl, rfl⟩ := hp
  have := List.all_eq_true.1 h p hp
  simp only [Bool.and_eq_true] at this
  exact ⟨countP_lt this.1, countP_lt this.2⟩

section
variable {l sl : List Int} {arcs : List (Int × Int)} {k : Nat}

theorem graph_ok (hlen : sl.length = l.length) (hg : good sl arcs = true) (hn : l.length ≤ 999999) (hk : l.length + arcs.length < k) :
    ∃ out comp m, arcsS sl arcs (List.replicate l.length []) = some out ∧ out.length = l.length ∧ rowsM out l.length = arcs.length ∧ (∀ u v, Eg out u v ↔ PE sl arcs u v) ∧ compsS l.length out k = some (comp, m) ∧ CompOf l.length (PE sl arcs) comp m := by
  obtain ⟨out, g1, g2, g3, g4⟩ := arcsS_good hlen arcs (List.replicate l.length []) (by simp) hg
  have h0 : ∀ u, (List.replicate l.length ([] : List Nat)).getD u [] = [] := fun u => by
    rw [List.getD_eq_getElem?_getD, List.getElem?_replicate]
    split <;> rfl
  have hr0 : rowsM (List.replicate l.length []) l.length = 0 := sum_map_zero (fun x _ => by rw [h0]; rfl)
  have hE : ∀ u v, Eg out u v ↔ PE sl arcs u v := fun u v => by
    rw [g4]
    constructor
    · rintro (h | h)
      · unfold Eg at h
        rw [h0] at h
        simp at h
      · exact h
    · exact .inr
  have hlt : ∀ u v, Eg out u v → v < l.length := fun u v h => by
    have := (PE_lt hg ((hE u v).1 h)).2
    omega
  obtain ⟨comp, m, c1, c2⟩ := comps_ok (n := l.length) (k := k) (by omega) hlt (by rw [unv_zero]; omega)
  exact ⟨out, comp, m, g1, g2, by omega, hE, c1, CompOf.congr (E := Eg out) c2 hE⟩

theorem acyS_ok (hlen : sl.length = l.length) (hs : sl.Pairwise (· ≤ ·)) (hn : l.length ≤ 999999) (hk : l.length + arcs.length < k) :
    (¬ sl.Nodup → acyS l arcs sl k = some (2, false)) ∧ (sl.Nodup → good sl arcs = false → acyS l arcs sl k = some (5, false)) ∧
    (sl.Nodup → good sl arcs = true → ∃ comp m, CompOf l.length (PE sl arcs) comp m ∧ acyS l arcs sl k = some (0, acyB arcs m l.length)) := by
  have hc := compact_len hs
  rw [hlen] at hc
  unfold acyS
  refine ⟨fun h => by rw [if_neg (fun e => h (hc.1 e))], fun h hb => by rw [if_pos (hc.2 h), arcsS_bad _ _ hb], fun h hg => ?_⟩
  rw [if_pos (hc.2 h)]
  obtain ⟨out, comp, m, g1, g2, g3, g4, g5, g6⟩ := graph_ok hlen hg hn hk
  rw [g1]
  dsimp only
  rw [g5]
  exact ⟨comp, m, g6, rfl⟩

def headZ (comp : List Nat) (sl : List Int) (c : Nat) : Int := (grpZ comp sl c).headD 0

theorem orderS_ok (hlen : sl.length = l.length) (hs : sl.Pairwise (· ≤ ·)) (hn : l.length ≤ 999999) (ha : arcs.length ≤ 1000000) (hk : l.length + arcs.length < k) :
    (¬ sl.Nodup → orderS l arcs sl k = some (2, [])) ∧ (sl.Nodup → good sl arcs = false → orderS l arcs sl k = some (5, [])) ∧
    (sl.Nodup → good sl arcs = true → ∃ comp m F, CompOf l.length (PE sl arcs) comp m ∧ IsOrder (Arc l.length (PE sl arcs) comp) m F ∧ orderS l arcs sl k = some (0, F.map (headZ comp sl))) := by
  have hc := compact_len hs
  rw [hlen] at hc
  unfold orderS
  refine ⟨fun h => by rw [if_neg (fun e => h (hc.1 e))], fun h hb => by rw [if_pos (hc.2 h), arcsS_bad _ _ hb], fun h hg => ?_⟩
  rw [if_pos (hc.2 h)]
  obtain ⟨out, comp, m, g1, g2, g3, g4, g5, g6⟩ := graph_ok hlen hg hn hk
  have hfo := fo_lt comp 0 m g6.2.1
  have hmn := fo_le comp 0 m g6.2.1
  have hcl := g6.1
  have hEl : ∀ u v, Eg out u v → v < l.length := fun u v h => by have := (PE_lt hg ((g4 u v).1 h)).2; omega
  have z1 : ∀ x, (List.replicate m 0).getD x 0 = 0 := fun x => by
    rw [List.getD_eq_getElem?_getD, List.getElem?_replicate]
    split <;> rfl
  have z2 : ∀ x, (List.replicate m ([] : List Nat)).getD x [] = [] := fun x => by
    rw [List.getD_eq_getElem?_getD, List.getElem?_replicate]
    split <;> rfl
  obtain ⟨H, I, O, f1, f2, f3, f4, f5, f6⟩ := vertsO_ok (m := m) (B := 1000000) (sl := sl) (Nat.le_refl _) hfo.2 hcl hlen g2 hEl l.length (List.replicate m 0) (List.replicate m 0) (List.replicate m []) (Nat.le_refl _) (by simp) (by simp) (by simp)
    (fun x => by rw [z1, g3]; omega) (fun d => by rw [z2, g3]; simp; omega) (fun x => by rw [z1]; exact (sum_map_zero (fun d _ => by rw [z2]; rfl)).symm) (fun d x => by
      rw [z2]
      constructor
      · intro h; simp at h
      · rintro ⟨_, v, w, h1, h2, _⟩; omega) (fun v h1 h2 => by omega)
  have hlens := vertsO_length _ _ _ _ _ _ _ f1
  simp only [List.length_replicate] at hlens
  obtain ⟨R, s1, s2, s3, s4⟩ := seedO_ok (into := I) (m := m) hlens.2.1 (by omega) m 0 [] 0 (by omega) List.Pairwise.nil (by simp) (by simp) rfl
  have harc : ∀ d x, x ∈ O.getD d [] ↔ Arc l.length (PE sl arcs) comp d x := fun d x => by
    rw [f5]
    unfold Arc
    simp only [g4]
  obtain ⟨F, l1, l2, l3, l4⟩ := loopO_ok (head := H) (outs := O) (m := m) (by omega) hlens.1 hlens.2.2 (fun T x => by
      have h1 : cntU O m T x ≤ cntU O m [] x := by
        unfold cntU
        have : ∀ q, ((List.range q).map fun d => if d ∈ T then 0 else (O.getD d []).count x).sum ≤ ((List.range q).map fun d => if d ∈ ([] : List Nat) then 0 else (O.getD d []).count x).sum := fun q => by
          induction q with
          | zero => simp
          | succ q ih =>
            rw [List.range_succ, List.map_append, List.map_append, List.sum_append, List.sum_append]
            simp only [List.map_cons, List.map_nil, List.sum_cons, List.sum_nil, List.not_mem_nil, if_false] at *
            split <;> omega
        exact this m
      rw [cntU_nil, ← f4] at h1
      have := f2 x
      omega) (fun d x hx => by
      obtain ⟨_, v, w, h1, h2, _, h4⟩ := (f5 d x).1 hx
      have := hEl v w h2
      rw [← h4]
      exact hfo.2 _ (getD_mem (by omega))) (fun T hT => by
      obtain ⟨c, c1, c2, c3⟩ := g6.min (fun u v h => by have := (PE_lt hg h).2; omega) T hT
      exact ⟨c, c1, c2, fun d hd hdT hx => c3 d hd hdT ((harc d c).1 hx)⟩) k I R [] hlens.2.1 (fun x => by rw [cntU_nil, f4]) s2 (fun x => by rw [s3]; simp) (by simp) (by rw [s4]; simp) (fun P c Q he => by simp at he) (by simp; omega)
  rw [g1]
  dsimp only
  rw [g5, Option.bind_some]
  dsimp only
  rw [f1, Option.bind_some]
  dsimp only
  rw [s1, Option.bind_some]
  dsimp only
  rw [show ([] : List Int) = (([] : List Nat).map fun c => H.getD c 0) from rfl, l1]
  refine ⟨comp, m, F, g6, ⟨fun P c Q he => ?_, l3, l4⟩, ?_⟩
  · obtain ⟨a1, a2, a3, a4⟩ := l2 P c Q he
    refine ⟨a1, a2, fun d hd hdP hA => a3 d hd hdP ((harc d c).2 hA), fun c' hc' hcP => ?_⟩
    obtain ⟨d, b1, b2, b3⟩ := a4 c' hc' hcP
    exact ⟨d, b1, b2, (harc d c').1 b3⟩
  · have : (F.map fun c => H.getD c 0) = F.map (headZ comp sl) := by
      apply List.map_congr_left
      intro c hcF
      obtain ⟨P, Q, he⟩ := List.append_of_mem hcF
      have hcm := (l2 P c Q he).1
      obtain ⟨v, v1, v2, v3⟩ := first_occ c comp (fo_mem comp 0 m g6.2.1 c (Nat.zero_le _) hcm)
      rw [headZ, grpZ_head c comp sl v (by omega) v1 v2 v3]
      have := f6 v (by omega) (fun u hu => by rw [v2]; exact v3 u hu)
      rw [v2] at this
      exact this
    rw [this]
    rfl
end

end Go.Proofs.Ytdohfjidnbhfnaa.Tj

/- The components and their order are determined by the relation of the edges. -/
namespace Go.Proofs.Ytdohfjidnbhfnaa.Tj

theorem fo_unique : ∀ (l l' p : List Nat) (k m m' : Nat), l.length = l'.length → fo l k = some m → fo l' k = some m' → (∀ c, c < k ↔ c ∈ p) →
    (∀ i j, i < p.length + l.length → j < p.length + l.length → ((p ++ l).getD i 0 = (p ++ l).getD j 0 ↔ (p ++ l').getD i 0 = (p ++ l').getD j 0)) → l = l' ∧ m = m'
  | [], [], _, k, m, m', _, h1, h2, _, _ => by
    cases h1; cases h2
    exact ⟨rfl, rfl⟩
  | [], _ :: _, _, _, _, _, h, _, _, _, _ => by simp at h
  | _ :: _, [], _, _, _, _, h, _, _, _, _ => by simp at h
  | c :: r, c' :: r', p, k, m, m', hl, h1, h2, hp, hk => by
    have at1 : (p ++ c :: r).getD p.length 0 = c := by
      rw [List.getD_eq_getElem?_getD, List.getElem?_append_right (Nat.le_refl _), Nat.sub_self]; rfl
    have at2 : (p ++ c' :: r').getD p.length 0 = c' := by
      rw [List.getD_eq_getElem?_getD, List.getElem?_append_right (Nat.le_refl _), Nat.sub_self]; rfl
    have low : ∀ (s : List Nat) i, i < p.length → (p ++ s).getD i 0 = p.getD i 0 := fun s i hi => by
      rw [List.getD_eq_getElem?_getD, List.getElem?_append_left hi, List.getD_eq_getElem?_getD]
    have hin : ∀ d, d ∈ p → ∃ i, i < p.length ∧ p.getD i 0 = d := fun d hd => by
      obtain ⟨i, hi, rfl⟩ := List.mem_iff_getElem.1 hd
      exact ⟨i, hi, by rw [List.getD_eq_getElem?_getD, List.getElem?_eq_getElem hi]; rfl⟩
    have hcc : c = c' := by
      by_cases hc : c < k
      · obtain ⟨i, hi, he⟩ := hin c ((hp c).1 hc)
        have := (hk i p.length (by omega) (by simp)).1 (by rw [low _ i hi, at1, he])
        rw [low _ i hi, at2, he] at this
        exact this
      · by_cases hc' : c' < k
        · obtain ⟨i, hi, he⟩ := hin c' ((hp c').1 hc')
          have := (hk i p.length (by omega) (by simp)).2 (by rw [low _ i hi, at2, he])
          rw [low _ i hi, at1, he] at this
          exact this.symm
        · rw [fo, if_neg hc] at h1
          rw [fo, if_neg hc'] at h2
          split at h1
          · split at h2
            · omega
            · cases h2
          · cases h1
    subst hcc
    have hap : ∀ s : List Nat, p ++ c :: s = (p ++ [c]) ++ s := fun s => by simp
    have hk2 : ∀ i j, i < (p ++ [c]).length + r.length → j < (p ++ [c]).length + r.length → (((p ++ [c]) ++ r).getD i 0 = ((p ++ [c]) ++ r).getD j 0 ↔ ((p ++ [c]) ++ r').getD i 0 = ((p ++ [c]) ++ r').getD j 0) := fun i j hi hj => by
      rw [← hap, ← hap]
      simp only [List.length_append, List.length_cons, List.length_nil] at hi hj
      exact hk i j (by simp only [List.length_cons]; omega) (by simp only [List.length_cons]; omega)
    rw [fo] at h1 h2
    by_cases hc : c < k
    · rw [if_pos hc] at h1 h2
      obtain ⟨e1, e2⟩ := fo_unique r r' (p ++ [c]) k m m' (by simpa using hl) h1 h2 (fun d => by
        rw [hp, List.mem_append, List.mem_singleton]
        exact ⟨.inl, fun h => h.elim id (fun e => e ▸ (hp c).1 hc)⟩) hk2
      exact ⟨by rw [e1], e2⟩
    · rw [if_neg hc] at h1 h2
      by_cases he : c = k
      · rw [if_pos he] at h1 h2
        obtain ⟨e1, e2⟩ := fo_unique r r' (p ++ [c]) (k + 1) m m' (by simpa using hl) h1 h2 (fun d => by
          rw [List.mem_append, List.mem_singleton, ← hp]
          omega) hk2
        exact ⟨by rw [e1], e2⟩
      · rw [if_neg he] at h1; cases h1

theorem CompOf.unique {n m m' : Nat} {E : Nat → Nat → Prop} {comp comp' : List Nat} (h : CompOf n E comp m) (h' : CompOf n E comp' m') : comp = comp' ∧ m = m' := by
  obtain ⟨a1, a2, a3⟩ := h
  obtain ⟨b1, b2, b3⟩ := h'
  refine fo_unique comp comp' [] 0 m m' (by omega) a2 b2 (fun c => by simp) (fun i j hi hj => ?_)
  simp only [List.length_nil, Nat.zero_add, List.nil_append] at *
  rw [a3 i j (by omega) (by omega), b3 i j (by omega) (by omega)]

theorem IsOrder.unique {A : Nat → Nat → Prop} {m : Nat} {F F' : List Nat} (h : IsOrder A m F) (h' : IsOrder A m F') : F = F' := by
  have key : ∀ (Q Q' P : List Nat), F = P ++ Q → F' = P ++ Q' → Q = Q' := by
    intro Q
    induction Q with
    | nil =>
      intro Q' P h1 h2
      cases Q' with
      | nil => rfl
      | cons c r =>
        have := h.2.2
        have := h'.2.2
        rw [h1] at *
        rw [h2] at *
        simp at *
        omega
    | cons c r ih =>
      intro Q' P h1 h2
      cases Q' with
      | nil =>
        have e1 := h.2.2
        have e2 := h'.2.2
        rw [h1] at e1
        rw [h2] at e2
        simp at e1 e2
        omega
      | cons c' r' =>
        obtain ⟨a1, a2, a3, a4⟩ := h.1 P c r h1
        obtain ⟨b1, b2, b3, b4⟩ := h'.1 P c' r' h2
        have hcc : c = c' := by
          rcases Nat.lt_trichotomy c c' with hlt | he | hlt
          · obtain ⟨d, d1, d2, d3⟩ := b4 c hlt a2
            exact absurd d3 (a3 d d1 d2)
          · exact he
          · obtain ⟨d, d1, d2, d3⟩ := a4 c' hlt b2
            exact absurd d3 (b3 d d1 d2)
        subst hcc
        rw [ih r' (P ++ [c]) (by rw [h1]; simp) (by rw [h2]; simp)]
  exact key F F' [] rfl rfl

end Go.Proofs.Ytdohfjidnbhfnaa.Tj

/- What scc's functions answer is the same for lists of the same vertices and arcs; turned arcs leave the components. -/
namespace Go.Proofs.Ytdohfjidnbhfnaa.Tj

theorem Rch.head {E : Nat → Nat → Prop} {a b c : Nat} (h : E a b) (h' : Rch E b c) : Rch E a c := (Rch.step (Rch.refl a) h).trans h'
theorem Rch.turn {E E' : Nat → Nat → Prop} (h : ∀ u v, E u v → E' v u) {x y : Nat} (hr : Rch E x y) : Rch E' y x := by
  induction hr with
  | refl => exact .refl _
  | step _ he ih => exact Rch.head (h _ _ he) ih

theorem good_iff {sl : List Int} {arcs : List (Int × Int)} : good sl arcs = true ↔ ∀ p ∈ arcs, sl.contains p.1 = true ∧ sl.contains p.2 = true := by
  simp [good]
section
end

end Go.Proofs.Ytdohfjidnbhfnaa.Tj

/- Rows read as lists; the document's example: what scc.Of answers there. -/
namespace Go.Proofs.Ytdohfjidnbhfnaa.Lw
open Go Go.RowKit Go.Proofs.Ytdohfjidnbhfnaa.Mem Go.Proofs.Ytdohfjidnbhfnaa.Sl Go.Proofs.Ytdohfjidnbhfnaa.Scc Go.Proofs.Ytdohfjidnbhfnaa.Tj Go.Proofs.YtdohfjidnbhfnaaW.PrintWords Go.Proofs.YtdohfjidnbhfnaaW.PrintLast
attribute [local go_sem ↓] Go.wp_at_zero Go.wp_at_succ
set_option linter.unusedSimpArgs false
set_option linter.unusedVariables false

def arcs2 (l : List (Int × Int)) : List Value := l.flatMap fun p => [.int .i64 p.1, .int .i64 p.2]
theorem arcs2_cons (p : Int × Int) (l : List (Int × Int)) : arcs2 (p :: l) = .int .i64 p.1 :: .int .i64 p.2 :: arcs2 l := rfl
theorem arcs2_length : ∀ l : List (Int × Int), (arcs2 l).length = l.length * 2
  | [] => rfl
  | p :: l => by rw [arcs2_cons, List.length_cons, List.length_cons, arcs2_length l, List.length_cons]; omega
theorem arcs2_append (l l' : List (Int × Int)) : arcs2 (l ++ l') = arcs2 l ++ arcs2 l' := by simp [arcs2]
theorem arcs2_at : ∀ (l : List (Int × Int)) (j : Nat) (u v : Int), l[j]? = some (u, v) → (arcs2 l)[j * 2]? = some (.int .i64 u) ∧ (arcs2 l)[j * 2 + 1]? = some (.int .i64 v)
  | [], j, u, v, h => by simp at h
  | p :: l, 0, u, v, h => by
    have : p = (u, v) := by simpa using h
    subst this
    exact ⟨rfl, rfl⟩
  | p :: l, j + 1, u, v, h => by
    have := arcs2_at l j u v (by simpa using h)
    rw [arcs2_cons, show (j + 1) * 2 = j * 2 + 2 by omega]
    exact this
theorem arcs2_take : ∀ (l : List (Int × Int)) (q : Nat), (arcs2 l).take (q * 2) = arcs2 (l.take q)
  | [], q => by simp [arcs2]
  | p :: l, 0 => rfl
  | p :: l, q + 1 => by
    rw [arcs2_cons, show (q + 1) * 2 = q * 2 + 1 + 1 by omega, List.take_succ_cons, List.take_succ_cons, arcs2_take l q, List.take_succ_cons, arcs2_cons]
theorem arcs2_one (l : List (Int × Int)) : ∀ u ∈ arcs2 l, u.oneCell' = true := by
  intro u hu
  simp only [arcs2, List.mem_flatMap] at hu
  obtain ⟨p, _, hp⟩ := hu
  rcases List.mem_cons.1 hp with rfl | hp
  · rfl
  · rcases List.mem_cons.1 hp with rfl | hp
    · rfl
    · simp at hp
theorem cell_flat {w : World} {base size n c : Nat} {e : TypeId} {A : Option Addr} {xs : List Value} (h : w.ownsRow base e size (.slice A n c) n xs) (hn : 0 < n) : ∃ g, A = some ⟨g, 0, none⟩ ∧ base ≤ g ∧ ∀ j u, xs[j]? = some u → w.cell? ⟨g, j, none⟩ = some u := by
  obtain ⟨g, cap, hv, hb, _⟩ := h.form hn
  cases hv
  refine ⟨g, rfl, hb, fun j u hu => ?_⟩
  have := h.cells (g := g) rfl j u hu
  rw [add_plain] at this
  simpa using this

theorem RdA.of_own {w : World} {base n c : Nat} {e : TypeId} {A : Option Addr} {l : List (Int × Int)} (h : w.ownsRow base e 2 (.slice A n c) n (arcs2 l)) : RdA w A l ∧ n = l.length := by
  have hn : n = l.length := by have := h.1; rw [arcs2_length] at this; omega
  refine ⟨fun j u v hx => ?_, hn⟩
  have hj : j < l.length := (List.getElem?_eq_some_iff.1 hx).1
  obtain ⟨g, rfl, _, hc⟩ := cell_flat h (by omega)
  exact ⟨g, rfl, hc _ _ (arcs2_at l j u v hx).1, hc _ _ (arcs2_at l j u v hx).2⟩

theorem RdI.lit (w : World) (l : List Int) (T : TypeId) : RdI (w.alloc (.cells (ints l).toArray T)) (some ⟨w.heap.size, 0, none⟩) l := fun j x hx =>
  ⟨_, rfl, (At.new w (ints l).toArray T).cell j (ints_at l hx)⟩
theorem RdA.lit (w : World) (l : List (Int × Int)) (T : TypeId) : RdA (w.alloc (.cells (arcs2 l).toArray T)) (some ⟨w.heap.size, 0, none⟩) l := fun j u v hx =>
  ⟨_, rfl, (At.new w (arcs2 l).toArray T).cell _ (arcs2_at l j u v hx).1, (At.new w (arcs2 l).toArray T).cell _ (arcs2_at l j u v hx).2⟩

theorem own_slice {w : World} {base size n : Nat} {e : TypeId} {v : Value} {xs : List Value} (h : w.ownsRow base e size v n xs) : ∃ A c, v = .slice A n c := by
  rcases h.2 with ⟨h1, rfl⟩ | ⟨g, cap, _, h1, _⟩
  · exact ⟨none, 0, h1⟩
  · exact ⟨_, _, h1⟩

theorem sorted_same {l l' : List Int} (h : l.Perm l') : sorted l = sorted l' := by
  have ht : ∀ a b c : Int, decide (a ≤ b) = true → decide (b ≤ c) = true → decide (a ≤ c) = true := by
    intro a b c h1 h2
    simp only [decide_eq_true_eq] at *
    omega
  have hto : ∀ a b : Int, (decide (a ≤ b) || decide (b ≤ a)) = true := by
    intro a b
    simp only [Bool.or_eq_true, decide_eq_true_eq]
    omega
  have p1 := List.pairwise_mergeSort ht hto l
  have p2 := List.pairwise_mergeSort ht hto l'
  have hp : (sorted l).Perm (sorted l') := ((List.mergeSort_perm l _).trans h).trans (List.mergeSort_perm l' _).symm
  refine List.Perm.eq_of_pairwise (le := fun a b => decide (a ≤ b) = true) ?_ p1 p2 hp
  intro a b _ _ h1 h2
  simp only [decide_eq_true_eq] at h1 h2
  omega
theorem sorted_of {l sl : List Int} (hp : l.Perm sl) (hs : sl.Pairwise (· ≤ ·)) : sorted l = sl := by
  rw [sorted_same hp]
  unfold sorted
  exact List.mergeSort_of_pairwise (hs.imp fun h => by simpa using h)

end Go.Proofs.Ytdohfjidnbhfnaa.Lw
