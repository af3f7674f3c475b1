/- What scc's three functions answer, told by the sorted vertices and the relation of their edges alone. -/
import Derived.Test.YthlmffjafeodlaaKahn
namespace Go.Proofs.Ythlmffjafeodlaa.Tj

/-- On a rising list nothing is lost by compacting just if no number stands twice. -/
theorem compact_len {sl : List Int} (hs : sl.Pairwise (· ≤ ·)) : (Lib.compact sl).length = sl.length ↔ sl.Nodup := by
  unfold Lib.compact Lib.compactUpTo
  rw [List.length_map]
  have h1 : ((List.range sl.length).filter (Lib.keeps sl.toArray)).length = sl.length ↔ ∀ j ∈ List.range sl.length, Lib.keeps sl.toArray j = true := by
    have := @List.length_filter_eq_length_iff Nat (Lib.keeps sl.toArray) (List.range sl.length)
    rw [List.length_range] at this
    exact this
  rw [h1]
  have hk : ∀ j (hj : j < sl.length), 0 < j → (Lib.keeps sl.toArray j = true ↔ sl[j] ≠ sl[j - 1]'(by omega)) := by
    intro j hj h0
    have e1 : sl.toArray[j]! = sl[j] := by simp [hj]
    have e2 : sl.toArray[j - 1]! = sl[j - 1]'(by omega) := by simp [show j - 1 < sl.length by omega]
    rw [Lib.keeps, e1, e2]
    simp [show j ≠ 0 by omega]
  constructor
  · intro h
    rw [List.nodup_iff_pairwise_ne, List.pairwise_iff_getElem]
    intro i j hi hj hij
    have h2 := (hk j hj (by omega)).1 (h j (List.mem_range.2 hj))
    have h3 : sl[j - 1]'(by omega) ≤ sl[j] := List.pairwise_iff_getElem.1 hs (j - 1) j (by omega) hj (by omega)
    have h4 : sl[i] ≤ sl[j - 1]'(by omega) := by
      rcases Nat.lt_or_ge i (j - 1) with h5 | h5
      · exact List.pairwise_iff_getElem.1 hs i (j - 1) hi (by omega) h5
      · have : i = j - 1 := by omega
        subst this
        exact Int.le_refl _
    omega
  · intro h j hj
    have hj := List.mem_range.1 hj
    rcases Nat.eq_zero_or_pos j with rfl | h0
    · simp [Lib.keeps]
    · rw [hk j hj h0]
      rw [List.nodup_iff_pairwise_ne, List.pairwise_iff_getElem] at h
      exact fun e => h (j - 1) j (by omega) hj (by omega) e.symm

/-- The place of x in a rising list. -/
def place (sl : List Int) (x : Int) : Nat := sl.countP (· < x)

/-- The edges among the places. -/
def PE (sl : List Int) (arcs : List (Int × Int)) (u v : Nat) : Prop := ∃ p ∈ arcs, place sl p.1 = u ∧ place sl p.2 = v

def good (sl : List Int) (arcs : List (Int × Int)) : Bool := arcs.all fun p => sl.contains p.1 && sl.contains p.2

theorem arcsS_bad {sl : List Int} : ∀ (arcs : List (Int × Int)) (out : List (List Nat)), good sl arcs = false → arcsS sl arcs out = none
  | [], _, h => by simp [good] at h
  | (u, v) :: r, out, h => by
    rw [arcsS]
    split
    · rename_i hc
      refine arcsS_bad r _ ?_
      simp only [good, List.all_cons, hc.1, hc.2, Bool.and_self, Bool.true_and] at h
      exact h
    · rfl

theorem rowsM_set {out : List (List Nat)} {n i x : Nat} (hi : i < n) (hl : i < out.length) : rowsM (out.set i (out.getD i [] ++ [x])) n = rowsM out n + 1 := by
  refine sum_range_one _ _ i 1 n hi ?_ ?_
  · rw [getD_set out i i _ _ hl, if_pos rfl, List.length_append, List.length_singleton]
  · intro y hy
    rw [getD_set out i y _ _ hl, if_neg hy]

theorem arcsS_good {sl : List Int} {n : Nat} (hn : sl.length = n) : ∀ (arcs : List (Int × Int)) (out : List (List Nat)), out.length = n → good sl arcs = true →
    ∃ o, arcsS sl arcs out = some o ∧ o.length = n ∧ rowsM o n = rowsM out n + arcs.length ∧ ∀ u v, Eg o u v ↔ Eg out u v ∨ PE sl arcs u v
  | [], out, hl, _ => ⟨out, rfl, hl, rfl, fun u v => by simp [PE]⟩
  | (a, b) :: r, out, hl, h => by
    simp only [good, List.all_cons, Bool.and_eq_true] at h
    obtain ⟨⟨h1, h2⟩, h3⟩ := h
    have hpl := countP_lt h1
    rw [arcsS, if_pos ⟨h1, h2⟩]
    obtain ⟨o, g1, g2, g3, g4⟩ := arcsS_good hn r (out.set (place sl a) (out.getD (place sl a) [] ++ [place sl b])) (by simpa using hl) h3
    refine ⟨o, g1, g2, ?_, fun u v => ?_⟩
    · rw [g3, rowsM_set (by unfold place; omega) (by unfold place; omega), List.length_cons]
      omega
    · rw [g4]
      unfold Eg
      rw [getD_set out _ u _ _ (by unfold place; omega)]
      constructor
      · rintro (he | ⟨p, hp, e⟩)
        · split at he
          · rename_i hu
            rcases List.mem_append.1 he with he | he
            · rw [hu]; exact .inl he
            · have : v = place sl b := by simpa using he
              exact .inr ⟨(a, b), List.mem_cons_self, hu.symm, this.symm⟩
          · exact .inl he
        · exact .inr ⟨p, List.mem_cons.2 (.inr hp), e⟩
      · rintro (he | ⟨p, hp, e1, e2⟩)
        · left
          split
          · rename_i hu
            rw [← hu]
            exact List.mem_append.2 (.inl he)
          · exact he
        · rcases List.mem_cons.1 hp with rfl | hp
          · left
            rw [if_pos e1.symm]
            exact List.mem_append.2 (.inr (by simp [e2]))
          · exact .inr ⟨p, hp, e1, e2⟩

/-- The numbers of component c, rising. -/
def grpZ (comp : List Nat) (sl : List Int) (c : Nat) : List Int := ((comp.zip sl).filter fun p => decide (p.1 = c)).map Prod.snd

theorem groupL_ok : ∀ (comp : List Nat) (sl : List Int) (out : List (List Int)), (∀ c ∈ comp, c < out.length) → ∃ ls, groupL comp sl out = some ls ∧ ls.length = out.length ∧ ∀ c, ls.getD c [] = out.getD c [] ++ grpZ comp sl c
  | [], sl, out, _ => ⟨out, by rw [groupL.eq_2]; intros; simp_all, rfl, fun c => by simp [grpZ]⟩
  | c0 :: r, [], out, _ => ⟨out, by rw [groupL.eq_2]; intros; simp_all, rfl, fun c => by simp [grpZ]⟩
  | c0 :: r, x :: xs, out, h => by
    have h0 := h c0 List.mem_cons_self
    rw [groupL, if_pos h0]
    obtain ⟨ls, g1, g2, g3⟩ := groupL_ok r xs (out.set c0 (out.getD c0 [] ++ [x])) (fun c hc => by rw [List.length_set]; exact h c (List.mem_cons.2 (.inr hc)))
    refine ⟨ls, g1, by simpa using g2, fun c => ?_⟩
    rw [g3, getD_set out c0 c _ _ h0]
    by_cases hc : c = c0
    · rw [if_pos hc, hc]
      simp [grpZ, List.zip_cons_cons]
    · rw [if_neg hc]
      have : ¬ c0 = c := fun e => hc e.symm
      simp [grpZ, List.zip_cons_cons, this]

theorem ext_getD {α : Type} {d : α} {a b : List α} (hl : a.length = b.length) (h : ∀ i, i < a.length → a.getD i d = b.getD i d) : a = b := by
  apply List.ext_getElem hl
  intro i h1 h2
  have := h i h1
  rw [List.getD_eq_getElem?_getD, List.getD_eq_getElem?_getD, List.getElem?_eq_getElem h1, List.getElem?_eq_getElem h2] at this
  exact this

/-- Components of n places under E. -/
def CompOf (n : Nat) (E : Nat → Nat → Prop) (comp : List Nat) (m : Nat) : Prop :=
  comp.length = n ∧ fo comp 0 = some m ∧ ∀ x y, x < n → y < n → (comp.getD x 0 = comp.getD y 0 ↔ Rch E x y ∧ Rch E y x)

/-- What Of answers, of good lists. -/
def ofL (comp : List Nat) (sl : List Int) (m : Nat) : List (List Int) := (List.range m).map (grpZ comp sl)

theorem unv_zero (n : Nat) (out : List (List Nat)) : unv n out (List.replicate n 0) = rowsM out n + n := by
  have h : ∀ v, (List.replicate n 0).getD v 0 = 0 := fun v => by
    rw [List.getD_eq_getElem?_getD, List.getElem?_replicate]
    split <;> rfl
  unfold unv rowsM
  simp only [h, if_true]
  have : ∀ m, ((List.range m).map fun v => (out.getD v []).length + 1).sum = ((List.range m).map fun v => (out.getD v []).length).sum + m := fun m => by
    induction m with
    | zero => rfl
    | succ m ih => simp [List.range_succ] at *; omega
  exact this n

theorem CompOf.congr {n m : Nat} {E E' : Nat → Nat → Prop} {comp : List Nat} (h : CompOf n E comp m) (hE : ∀ u v, E u v ↔ E' u v) : CompOf n E' comp m := by
  have : E = E' := by funext u v; exact propext (hE u v)
  exact this ▸ h

end Go.Proofs.Ythlmffjafeodlaa.Tj

/- What scc's three functions answer: the models' answers. -/
namespace Go.Proofs.Ythlmffjafeodlaa.Tj

theorem exists_min {R : Nat → Nat → Prop} (ht : ∀ a b c, R a b → R b c → R a c) (ha : ∀ a b, R a b → R b a → a = b) : ∀ U : List Nat, U ≠ [] → ∃ c ∈ U, ∀ d ∈ U, R d c → d = c
  | [], h => absurd rfl h
  | [a], _ => ⟨a, List.mem_cons_self, fun d hd _ => by simpa using hd⟩
  | a :: b :: U, _ => by
    obtain ⟨c, hc, hm⟩ := exists_min ht ha (b :: U) (by simp)
    by_cases hac : R a c
    · refine ⟨a, List.mem_cons_self, fun d hd hda => ?_⟩
      rcases List.mem_cons.1 hd with rfl | hd
      · rfl
      · have h1 := hm d hd (ht _ _ _ hda hac)
        subst h1
        exact ha _ _ hda hac
    · refine ⟨c, List.mem_cons.2 (.inr hc), fun d hd hdc => ?_⟩
      rcases List.mem_cons.1 hd with rfl | hd
      · exact absurd hdc hac
      · exact hm d hd hdc

theorem fo_mem : ∀ (l : List Nat) (k m : Nat), fo l k = some m → ∀ c, k ≤ c → c < m → c ∈ l
  | [], k, m, h, c, h1, h2 => by cases h; omega
  | x :: r, k, m, h, c, h1, h2 => by
    rw [fo] at h
    split at h
    · exact List.mem_cons.2 (.inr (fo_mem r k m h c h1 h2))
    · split at h
      · rename_i hx
        by_cases hc : c = k
        · exact List.mem_cons.2 (.inl (by omega))
        · exact List.mem_cons.2 (.inr (fo_mem r (k + 1) m h c (by omega) h2))
      · cases h
theorem fo_le : ∀ (l : List Nat) (k m : Nat), fo l k = some m → m ≤ k + l.length
  | [], k, m, h => by cases h; simp
  | x :: r, k, m, h => by
    rw [fo] at h
    split at h
    · have := fo_le r k m h
      rw [List.length_cons]; omega
    · split at h
      · have := fo_le r (k + 1) m h
        rw [List.length_cons]; omega
      · cases h

theorem first_occ (c : Nat) : ∀ l : List Nat, c ∈ l → ∃ v, v < l.length ∧ l.getD v 0 = c ∧ ∀ u, u < v → l.getD u 0 ≠ c
  | x :: r, h => by
    by_cases hx : x = c
    · exact ⟨0, by simp, by simpa using hx, fun u hu => by omega⟩
    · obtain ⟨v, h1, h2, h3⟩ := first_occ c r (by
        rcases List.mem_cons.1 h with he | h
        · exact absurd he.symm hx
        · exact h)
      refine ⟨v + 1, by simpa using h1, by simpa using h2, fun u hu => ?_⟩
      cases u with
      | zero => simpa using hx
      | succ u => simpa using h3 u (by omega)

theorem grpZ_head (c : Nat) : ∀ (comp : List Nat) (sl : List Int) (v : Nat), comp.length = sl.length → v < comp.length → comp.getD v 0 = c → (∀ u, u < v → comp.getD u 0 ≠ c) → (grpZ comp sl c).headD 0 = sl.getD v 0
  | [], _, v, _, h, _, _ => by simp at h
  | _ :: _, [], _, h, _, _, _ => by simp at h
  | x :: r, y :: s, 0, _, _, h, _ => by
    have hx : x = c := by simpa using h
    simp [grpZ, List.zip_cons_cons, hx]
  | x :: r, y :: s, v + 1, hl, hv, h, hu => by
    have hx : ¬ x = c := by simpa using hu 0 (by omega)
    have := grpZ_head c r s v (by simpa using hl) (by simpa using hv) (by simpa using h) (fun u hlt => by simpa using hu (u + 1) (by omega))
    simp only [grpZ, List.zip_cons_cons, List.getD_cons_succ] at *
    rw [List.filter_cons_of_neg (by simpa using hx)]
    exact this

/-- An edge leads from component d into another, x. -/
def Arc (n : Nat) (E : Nat → Nat → Prop) (comp : List Nat) (d x : Nat) : Prop := x ≠ d ∧ ∃ v w, v < n ∧ E v w ∧ comp.getD v 0 = d ∧ comp.getD w 0 = x

/-- The order of the components: each step takes the least into which no arc leads from one that is not ahead of it; all m are told. -/
def IsOrder (A : Nat → Nat → Prop) (m : Nat) (F : List Nat) : Prop :=
  (∀ P c Q, F = P ++ c :: Q → c < m ∧ c ∉ P ∧ (∀ d, d < m → d ∉ P → ¬ A d c) ∧ ∀ c', c' < c → c' ∉ P → ∃ d, d < m ∧ d ∉ P ∧ A d c') ∧ (∀ x, x < m → x ∈ F) ∧ F.length = m

theorem CompOf.min {n m : Nat} {E : Nat → Nat → Prop} {comp : List Nat} (h : CompOf n E comp m) (hE : ∀ u v, E u v → v < n) (T : List Nat) (hT : ∃ x, x < m ∧ x ∉ T) : ∃ c, c < m ∧ c ∉ T ∧ ∀ d, d < m → d ∉ T → ¬ Arc n E comp d c := by
  obtain ⟨hl, hf, hk⟩ := h
  obtain ⟨x, hx, hxT⟩ := hT
  let R : Nat → Nat → Prop := fun d c => ∃ v w, v < n ∧ w < n ∧ comp.getD v 0 = d ∧ comp.getD w 0 = c ∧ Rch E v w
  have ht : ∀ a b c, R a b → R b c → R a c := by
    rintro a b c ⟨v, w, h1, h2, h3, h4, h5⟩ ⟨v', w', g1, g2, g3, g4, g5⟩
    have := ((hk w v' h2 g1).1 (h4.trans g3.symm)).1
    exact ⟨v, w', h1, g2, h3, g4, (h5.trans this).trans g5⟩
  have ha : ∀ a b, R a b → R b a → a = b := by
    rintro a b ⟨v, w, h1, h2, h3, h4, h5⟩ ⟨v', w', g1, g2, g3, g4, g5⟩
    have e1 := ((hk w v' h2 g1).1 (h4.trans g3.symm)).1
    have e2 := ((hk w' v g2 h1).1 (g4.trans h3.symm)).1
    rw [← h3, ← h4]
    exact (hk v w h1 h2).2 ⟨h5, (e1.trans g5).trans e2⟩
  obtain ⟨c, hc, hmin⟩ := exists_min ht ha ((List.range m).filter fun d => decide (d ∉ T)) (by
    intro he
    have : x ∈ (List.range m).filter fun d => decide (d ∉ T) := by simp [hx, hxT]
    rw [he] at this
    simp at this)
  simp only [List.mem_filter, List.mem_range, decide_eq_true_eq] at hc hmin
  refine ⟨c, hc.1, hc.2, fun d hd hdT hA => ?_⟩
  obtain ⟨hne, v, w, h1, h2, h3, h4⟩ := hA
  exact hne (hmin d ⟨hd, hdT⟩ ⟨v, w, h1, hE v w h2, h3, h4, .one h2⟩).symm

theorem PE_lt {sl : List Int} {arcs : List (Int × Int)} (h : good sl arcs = true) {u v : Nat} (hp : PE sl arcs u v) : u < sl.length ∧ v < sl.length := by
  obtain ⟨p, hp, rfl, rfl⟩ := hp
  have := List.all_eq_true.1 h p hp
  simp only [Bool.and_eq_true] at this
  exact ⟨countP_lt this.1, countP_lt this.2⟩

section
variable {l sl : List Int} {arcs : List (Int × Int)} {k : Nat}

theorem graph_ok (hlen : sl.length = l.length) (hg : good sl arcs = true) (hn : l.length ≤ 999999) (hk : l.length + arcs.length < k) :
    ∃ out comp m, arcsS sl arcs (List.replicate l.length []) = some out ∧ out.length = l.length ∧ rowsM out l.length = arcs.length ∧ (∀ u v, Eg out u v ↔ PE sl arcs u v) ∧ compsS l.length out k = some (comp, m) ∧ CompOf l.length (PE sl arcs) comp m := by
  obtain ⟨out, g1, g2, g3, g4⟩ := arcsS_good hlen arcs (List.replicate l.length []) (by simp) hg
  have h0 : ∀ u, (List.replicate l.length ([] : List Nat)).getD u [] = [] := fun u => by
    rw [List.getD_eq_getElem?_getD, List.getElem?_replicate]
    split <;> rfl
  have hr0 : rowsM (List.replicate l.length []) l.length = 0 := sum_map_zero (fun x _ => by rw [h0]; rfl)
  have hE : ∀ u v, Eg out u v ↔ PE sl arcs u v := fun u v => by
    rw [g4]
    constructor
    · rintro (h | h)
      · unfold Eg at h
        rw [h0] at h
        simp at h
      · exact h
    · exact .inr
  have hlt : ∀ u v, Eg out u v → v < l.length := fun u v h => by
    have := (PE_lt hg ((hE u v).1 h)).2
    omega
  obtain ⟨comp, m, c1, c2⟩ := comps_ok (n := l.length) (k := k) (by omega) hlt (by rw [unv_zero]; omega)
  exact ⟨out, comp, m, g1, g2, by omega, hE, c1, CompOf.congr (E := Eg out) c2 hE⟩

theorem ofS_ok (hlen : sl.length = l.length) (hs : sl.Pairwise (· ≤ ·)) (hn : l.length ≤ 999999) (hk : l.length + arcs.length < k) :
    (¬ sl.Nodup → ofS l arcs sl k = some (2, [])) ∧ (sl.Nodup → good sl arcs = false → ofS l arcs sl k = some (5, [])) ∧
    (sl.Nodup → good sl arcs = true → ∃ comp m, CompOf l.length (PE sl arcs) comp m ∧ ofS l arcs sl k = some (0, ofL comp sl m)) := by
  have hc := compact_len hs
  rw [hlen] at hc
  unfold ofS
  refine ⟨fun h => by rw [if_neg (fun e => h (hc.1 e))], fun h hb => by rw [if_pos (hc.2 h), arcsS_bad _ _ hb], fun h hg => ?_⟩
  rw [if_pos (hc.2 h)]
  obtain ⟨out, comp, m, g1, g2, g3, g4, g5, g6⟩ := graph_ok hlen hg hn hk
  have hfo := fo_lt comp 0 m g6.2.1
  obtain ⟨ls, e1, e2, e3⟩ := groupL_ok comp sl (List.replicate m []) (fun c hc => by rw [List.length_replicate]; exact hfo.2 c hc)
  rw [g1]
  dsimp only
  rw [g5, Option.bind_some]
  dsimp only
  rw [e1]
  refine ⟨comp, m, g6, ?_⟩
  have : ls = ofL comp sl m := by
    refine ext_getD (d := []) (by rw [e2]; simp [ofL]) (fun i hi => ?_)
    rw [e2, List.length_replicate] at hi
    rw [e3, ofL, List.getD_eq_getElem?_getD, List.getD_eq_getElem?_getD, List.getElem?_replicate, if_pos hi, List.getElem?_map, List.getElem?_range hi]
    simp
  rw [this]
  rfl

theorem acyS_ok (hlen : sl.length = l.length) (hs : sl.Pairwise (· ≤ ·)) (hn : l.length ≤ 999999) (hk : l.length + arcs.length < k) :
    (¬ sl.Nodup → acyS l arcs sl k = some (2, false)) ∧ (sl.Nodup → good sl arcs = false → acyS l arcs sl k = some (5, false)) ∧
    (sl.Nodup → good sl arcs = true → ∃ comp m, CompOf l.length (PE sl arcs) comp m ∧ acyS l arcs sl k = some (0, acyB arcs m l.length)) := by
  have hc := compact_len hs
  rw [hlen] at hc
  unfold acyS
  refine ⟨fun h => by rw [if_neg (fun e => h (hc.1 e))], fun h hb => by rw [if_pos (hc.2 h), arcsS_bad _ _ hb], fun h hg => ?_⟩
  rw [if_pos (hc.2 h)]
  obtain ⟨out, comp, m, g1, g2, g3, g4, g5, g6⟩ := graph_ok hlen hg hn hk
  rw [g1]
  dsimp only
  rw [g5]
  exact ⟨comp, m, g6, rfl⟩

/-- The head of component c. -/
def headZ (comp : List Nat) (sl : List Int) (c : Nat) : Int := (grpZ comp sl c).headD 0

theorem orderS_ok (hlen : sl.length = l.length) (hs : sl.Pairwise (· ≤ ·)) (hn : l.length ≤ 999999) (ha : arcs.length ≤ 1000000) (hk : l.length + arcs.length < k) :
    (¬ sl.Nodup → orderS l arcs sl k = some (2, [])) ∧ (sl.Nodup → good sl arcs = false → orderS l arcs sl k = some (5, [])) ∧
    (sl.Nodup → good sl arcs = true → ∃ comp m F, CompOf l.length (PE sl arcs) comp m ∧ IsOrder (Arc l.length (PE sl arcs) comp) m F ∧ orderS l arcs sl k = some (0, F.map (headZ comp sl))) := by
  have hc := compact_len hs
  rw [hlen] at hc
  unfold orderS
  refine ⟨fun h => by rw [if_neg (fun e => h (hc.1 e))], fun h hb => by rw [if_pos (hc.2 h), arcsS_bad _ _ hb], fun h hg => ?_⟩
  rw [if_pos (hc.2 h)]
  obtain ⟨out, comp, m, g1, g2, g3, g4, g5, g6⟩ := graph_ok hlen hg hn hk
  have hfo := fo_lt comp 0 m g6.2.1
  have hmn := fo_le comp 0 m g6.2.1
  have hcl := g6.1
  have hEl : ∀ u v, Eg out u v → v < l.length := fun u v h => by have := (PE_lt hg ((g4 u v).1 h)).2; omega
  have z1 : ∀ x, (List.replicate m 0).getD x 0 = 0 := fun x => by
    rw [List.getD_eq_getElem?_getD, List.getElem?_replicate]
    split <;> rfl
  have z2 : ∀ x, (List.replicate m ([] : List Nat)).getD x [] = [] := fun x => by
    rw [List.getD_eq_getElem?_getD, List.getElem?_replicate]
    split <;> rfl
  obtain ⟨H, I, O, f1, f2, f3, f4, f5, f6⟩ := vertsO_ok (m := m) (B := 1000000) (sl := sl) (Nat.le_refl _) hfo.2 hcl hlen g2 hEl l.length (List.replicate m 0) (List.replicate m 0) (List.replicate m []) (Nat.le_refl _) (by simp) (by simp) (by simp)
    (fun x => by rw [z1, g3]; omega) (fun d => by rw [z2, g3]; simp; omega) (fun x => by rw [z1]; exact (sum_map_zero (fun d _ => by rw [z2]; rfl)).symm) (fun d x => by
      rw [z2]
      constructor
      · intro h; simp at h
      · rintro ⟨_, v, w, h1, h2, _⟩; omega) (fun v h1 h2 => by omega)
  have hlens := vertsO_length _ _ _ _ _ _ _ f1
  simp only [List.length_replicate] at hlens
  obtain ⟨R, s1, s2, s3, s4⟩ := seedO_ok (into := I) (m := m) hlens.2.1 (by omega) m 0 [] 0 (by omega) List.Pairwise.nil (by simp) (by simp) rfl
  have harc : ∀ d x, x ∈ O.getD d [] ↔ Arc l.length (PE sl arcs) comp d x := fun d x => by
    rw [f5]
    unfold Arc
    simp only [g4]
  obtain ⟨F, l1, l2, l3, l4⟩ := loopO_ok (head := H) (outs := O) (m := m) (by omega) hlens.1 hlens.2.2 (fun T x => by
      have h1 : cntU O m T x ≤ cntU O m [] x := by
        unfold cntU
        have : ∀ q, ((List.range q).map fun d => if d ∈ T then 0 else (O.getD d []).count x).sum ≤ ((List.range q).map fun d => if d ∈ ([] : List Nat) then 0 else (O.getD d []).count x).sum := fun q => by
          induction q with
          | zero => simp
          | succ q ih =>
            rw [List.range_succ, List.map_append, List.map_append, List.sum_append, List.sum_append]
            simp only [List.map_cons, List.map_nil, List.sum_cons, List.sum_nil, List.not_mem_nil, if_false] at *
            split <;> omega
        exact this m
      rw [cntU_nil, ← f4] at h1
      have := f2 x
      omega) (fun d x hx => by
      obtain ⟨_, v, w, h1, h2, _, h4⟩ := (f5 d x).1 hx
      have := hEl v w h2
      rw [← h4]
      exact hfo.2 _ (getD_mem (by omega))) (fun T hT => by
      obtain ⟨c, c1, c2, c3⟩ := g6.min (fun u v h => by have := (PE_lt hg h).2; omega) T hT
      exact ⟨c, c1, c2, fun d hd hdT hx => c3 d hd hdT ((harc d c).1 hx)⟩) k I R [] hlens.2.1 (fun x => by rw [cntU_nil, f4]) s2 (fun x => by rw [s3]; simp) (by simp) (by rw [s4]; simp) (fun P c Q he => by simp at he) (by simp; omega)
  rw [g1]
  dsimp only
  rw [g5, Option.bind_some]
  dsimp only
  rw [f1, Option.bind_some]
  dsimp only
  rw [s1, Option.bind_some]
  dsimp only
  rw [show ([] : List Int) = (([] : List Nat).map fun c => H.getD c 0) from rfl, l1]
  refine ⟨comp, m, F, g6, ⟨fun P c Q he => ?_, l3, l4⟩, ?_⟩
  · obtain ⟨a1, a2, a3, a4⟩ := l2 P c Q he
    refine ⟨a1, a2, fun d hd hdP hA => a3 d hd hdP ((harc d c).2 hA), fun c' hc' hcP => ?_⟩
    obtain ⟨d, b1, b2, b3⟩ := a4 c' hc' hcP
    exact ⟨d, b1, b2, (harc d c').1 b3⟩
  · have : (F.map fun c => H.getD c 0) = F.map (headZ comp sl) := by
      apply List.map_congr_left
      intro c hcF
      obtain ⟨P, Q, he⟩ := List.append_of_mem hcF
      have hcm := (l2 P c Q he).1
      obtain ⟨v, v1, v2, v3⟩ := first_occ c comp (fo_mem comp 0 m g6.2.1 c (Nat.zero_le _) hcm)
      rw [headZ, grpZ_head c comp sl v (by omega) v1 v2 v3]
      have := f6 v (by omega) (fun u hu => by rw [v2]; exact v3 u hu)
      rw [v2] at this
      exact this
    rw [this]
    rfl
end

end Go.Proofs.Ythlmffjafeodlaa.Tj

/- The components and their order are determined by the relation of the edges. -/
namespace Go.Proofs.Ythlmffjafeodlaa.Tj

theorem fo_unique : ∀ (l l' p : List Nat) (k m m' : Nat), l.length = l'.length → fo l k = some m → fo l' k = some m' → (∀ c, c < k ↔ c ∈ p) →
    (∀ i j, i < p.length + l.length → j < p.length + l.length → ((p ++ l).getD i 0 = (p ++ l).getD j 0 ↔ (p ++ l').getD i 0 = (p ++ l').getD j 0)) → l = l' ∧ m = m'
  | [], [], _, k, m, m', _, h1, h2, _, _ => by
    cases h1; cases h2
    exact ⟨rfl, rfl⟩
  | [], _ :: _, _, _, _, _, h, _, _, _, _ => by simp at h
  | _ :: _, [], _, _, _, _, h, _, _, _, _ => by simp at h
  | c :: r, c' :: r', p, k, m, m', hl, h1, h2, hp, hk => by
    have at1 : (p ++ c :: r).getD p.length 0 = c := by
      rw [List.getD_eq_getElem?_getD, List.getElem?_append_right (Nat.le_refl _), Nat.sub_self]; rfl
    have at2 : (p ++ c' :: r').getD p.length 0 = c' := by
      rw [List.getD_eq_getElem?_getD, List.getElem?_append_right (Nat.le_refl _), Nat.sub_self]; rfl
    have low : ∀ (s : List Nat) i, i < p.length → (p ++ s).getD i 0 = p.getD i 0 := fun s i hi => by
      rw [List.getD_eq_getElem?_getD, List.getElem?_append_left hi, List.getD_eq_getElem?_getD]
    have hin : ∀ d, d ∈ p → ∃ i, i < p.length ∧ p.getD i 0 = d := fun d hd => by
      obtain ⟨i, hi, rfl⟩ := List.mem_iff_getElem.1 hd
      exact ⟨i, hi, by rw [List.getD_eq_getElem?_getD, List.getElem?_eq_getElem hi]; rfl⟩
    have hcc : c = c' := by
      by_cases hc : c < k
      · obtain ⟨i, hi, he⟩ := hin c ((hp c).1 hc)
        have := (hk i p.length (by omega) (by simp)).1 (by rw [low _ i hi, at1, he])
        rw [low _ i hi, at2, he] at this
        exact this
      · by_cases hc' : c' < k
        · obtain ⟨i, hi, he⟩ := hin c' ((hp c').1 hc')
          have := (hk i p.length (by omega) (by simp)).2 (by rw [low _ i hi, at2, he])
          rw [low _ i hi, at1, he] at this
          exact this.symm
        · rw [fo, if_neg hc] at h1
          rw [fo, if_neg hc'] at h2
          split at h1
          · split at h2
            · omega
            · cases h2
          · cases h1
    subst hcc
    have hap : ∀ s : List Nat, p ++ c :: s = (p ++ [c]) ++ s := fun s => by simp
    have hk2 : ∀ i j, i < (p ++ [c]).length + r.length → j < (p ++ [c]).length + r.length → (((p ++ [c]) ++ r).getD i 0 = ((p ++ [c]) ++ r).getD j 0 ↔ ((p ++ [c]) ++ r').getD i 0 = ((p ++ [c]) ++ r').getD j 0) := fun i j hi hj => by
      rw [← hap, ← hap]
      simp only [List.length_append, List.length_cons, List.length_nil] at hi hj
      exact hk i j (by simp only [List.length_cons]; omega) (by simp only [List.length_cons]; omega)
    rw [fo] at h1 h2
    by_cases hc : c < k
    · rw [if_pos hc] at h1 h2
      obtain ⟨e1, e2⟩ := fo_unique r r' (p ++ [c]) k m m' (by simpa using hl) h1 h2 (fun d => by
        rw [hp, List.mem_append, List.mem_singleton]
        exact ⟨.inl, fun h => h.elim id (fun e => e ▸ (hp c).1 hc)⟩) hk2
      exact ⟨by rw [e1], e2⟩
    · rw [if_neg hc] at h1 h2
      by_cases he : c = k
      · rw [if_pos he] at h1 h2
        obtain ⟨e1, e2⟩ := fo_unique r r' (p ++ [c]) (k + 1) m m' (by simpa using hl) h1 h2 (fun d => by
          rw [List.mem_append, List.mem_singleton, ← hp]
          omega) hk2
        exact ⟨by rw [e1], e2⟩
      · rw [if_neg he] at h1; cases h1

theorem CompOf.unique {n m m' : Nat} {E : Nat → Nat → Prop} {comp comp' : List Nat} (h : CompOf n E comp m) (h' : CompOf n E comp' m') : comp = comp' ∧ m = m' := by
  obtain ⟨a1, a2, a3⟩ := h
  obtain ⟨b1, b2, b3⟩ := h'
  refine fo_unique comp comp' [] 0 m m' (by omega) a2 b2 (fun c => by simp) (fun i j hi hj => ?_)
  simp only [List.length_nil, Nat.zero_add, List.nil_append] at *
  rw [a3 i j (by omega) (by omega), b3 i j (by omega) (by omega)]

theorem IsOrder.unique {A : Nat → Nat → Prop} {m : Nat} {F F' : List Nat} (h : IsOrder A m F) (h' : IsOrder A m F') : F = F' := by
  have key : ∀ (Q Q' P : List Nat), F = P ++ Q → F' = P ++ Q' → Q = Q' := by
    intro Q
    induction Q with
    | nil =>
      intro Q' P h1 h2
      cases Q' with
      | nil => rfl
      | cons c r =>
        have := h.2.2
        have := h'.2.2
        rw [h1] at *
        rw [h2] at *
        simp at *
        omega
    | cons c r ih =>
      intro Q' P h1 h2
      cases Q' with
      | nil =>
        have e1 := h.2.2
        have e2 := h'.2.2
        rw [h1] at e1
        rw [h2] at e2
        simp at e1 e2
        omega
      | cons c' r' =>
        obtain ⟨a1, a2, a3, a4⟩ := h.1 P c r h1
        obtain ⟨b1, b2, b3, b4⟩ := h'.1 P c' r' h2
        have hcc : c = c' := by
          rcases Nat.lt_trichotomy c c' with hlt | he | hlt
          · obtain ⟨d, d1, d2, d3⟩ := b4 c hlt a2
            exact absurd d3 (a3 d d1 d2)
          · exact he
          · obtain ⟨d, d1, d2, d3⟩ := a4 c' hlt b2
            exact absurd d3 (b3 d d1 d2)
        subst hcc
        rw [ih r' (P ++ [c]) (by rw [h1]; simp) (by rw [h2]; simp)]
  exact key F F' [] rfl rfl

end Go.Proofs.Ythlmffjafeodlaa.Tj

/- What scc's functions answer is the same for lists of the same vertices and arcs; turned arcs leave the components. -/
namespace Go.Proofs.Ythlmffjafeodlaa.Tj

/-- The code that all three answer. -/
def codeV (sl : List Int) (arcs : List (Int × Int)) : Nat := if sl.Nodup then (if good sl arcs then 0 else 5) else 2

theorem Rch.head {E : Nat → Nat → Prop} {a b c : Nat} (h : E a b) (h' : Rch E b c) : Rch E a c := (Rch.step (Rch.refl a) h).trans h'
theorem Rch.turn {E E' : Nat → Nat → Prop} (h : ∀ u v, E u v → E' v u) {x y : Nat} (hr : Rch E x y) : Rch E' y x := by
  induction hr with
  | refl => exact .refl _
  | step _ he ih => exact Rch.head (h _ _ he) ih

theorem CompOf.congrR {n m : Nat} {E E' : Nat → Nat → Prop} {comp : List Nat} (h : CompOf n E comp m) (hE : ∀ x y, (Rch E x y ∧ Rch E y x) ↔ (Rch E' x y ∧ Rch E' y x)) : CompOf n E' comp m :=
  ⟨h.1, h.2.1, fun x y hx hy => (h.2.2 x y hx hy).trans (hE x y)⟩

theorem PE_same {sl : List Int} {arcs arcs' : List (Int × Int)} (h : ∀ p, p ∈ arcs ↔ p ∈ arcs') : PE sl arcs = PE sl arcs' := by
  funext u v
  refine propext ⟨?_, ?_⟩
  · rintro ⟨p, hp, h1⟩
    exact ⟨p, (h p).1 hp, h1⟩
  · rintro ⟨p, hp, h1⟩
    exact ⟨p, (h p).2 hp, h1⟩
theorem good_iff {sl : List Int} {arcs : List (Int × Int)} : good sl arcs = true ↔ ∀ p ∈ arcs, sl.contains p.1 = true ∧ sl.contains p.2 = true := by
  simp [good]
theorem good_same {sl : List Int} {arcs arcs' : List (Int × Int)} (h : ∀ p, p ∈ arcs ↔ p ∈ arcs') : good sl arcs = good sl arcs' := by
  rw [Bool.eq_iff_iff, good_iff, good_iff]
  exact ⟨fun g p hp => g p ((h p).2 hp), fun g p hp => g p ((h p).1 hp)⟩
theorem good_turn {sl : List Int} {arcs arcs' : List (Int × Int)} (h : ∀ p, p ∈ arcs' ↔ (p.2, p.1) ∈ arcs) : good sl arcs = good sl arcs' := by
  rw [Bool.eq_iff_iff, good_iff, good_iff]
  refine ⟨fun g p hp => ?_, fun g p hp => ?_⟩
  · have := g _ ((h p).1 hp)
    exact ⟨this.2, this.1⟩
  · have := g (p.2, p.1) ((h _).2 hp)
    exact ⟨this.2, this.1⟩
theorem PE_turn {sl : List Int} {arcs arcs' : List (Int × Int)} (h : ∀ p, p ∈ arcs' ↔ (p.2, p.1) ∈ arcs) (x y : Nat) : (Rch (PE sl arcs) x y ∧ Rch (PE sl arcs) y x) ↔ (Rch (PE sl arcs') x y ∧ Rch (PE sl arcs') y x) := by
  have h1 : ∀ u v, PE sl arcs u v → PE sl arcs' v u := by
    rintro u v ⟨p, hp, e1, e2⟩
    exact ⟨(p.2, p.1), (h _).2 hp, e2, e1⟩
  have h2 : ∀ u v, PE sl arcs' u v → PE sl arcs v u := by
    rintro u v ⟨p, hp, e1, e2⟩
    exact ⟨(p.2, p.1), (h _).1 hp, e2, e1⟩
  exact ⟨fun g => ⟨g.2.turn h1, g.1.turn h1⟩, fun g => ⟨g.2.turn h2, g.1.turn h2⟩⟩

section
variable {l l' : List Int} {arcs arcs' : List (Int × Int)} {sl : List Int} {k k' : Nat}
theorem ofS_same (hlen : sl.length = l.length) (hlen' : sl.length = l'.length) (hs : sl.Pairwise (· ≤ ·)) (hn : l.length ≤ 999999) (hk : l.length + arcs.length < k) (hk' : l'.length + arcs'.length < k')
    (hg : good sl arcs = good sl arcs') (hE : ∀ x y, (Rch (PE sl arcs) x y ∧ Rch (PE sl arcs) y x) ↔ (Rch (PE sl arcs') x y ∧ Rch (PE sl arcs') y x)) : ofS l arcs sl k = ofS l' arcs' sl k' := by
  obtain ⟨a1, a2, a3⟩ := ofS_ok hlen hs hn hk
  obtain ⟨b1, b2, b3⟩ := ofS_ok hlen' hs (by omega) hk'
  by_cases hd : sl.Nodup
  · cases hb : good sl arcs with
    | false => rw [a2 hd hb, b2 hd (hg ▸ hb)]
    | true =>
      obtain ⟨comp, m, h1, h2⟩ := a3 hd hb
      obtain ⟨comp', m', h3, h4⟩ := b3 hd (hg ▸ hb)
      have h1' := h1.congrR hE
      rw [show l.length = l'.length by omega] at h1'
      obtain ⟨rfl, rfl⟩ := h1'.unique h3
      rw [h2, h4]
  · rw [a1 hd, b1 hd]

theorem orderS_same (hlen : sl.length = l.length) (hlen' : sl.length = l'.length) (hs : sl.Pairwise (· ≤ ·)) (hn : l.length ≤ 999999) (ha : arcs.length ≤ 1000000) (ha' : arcs'.length ≤ 1000000) (hk : l.length + arcs.length < k) (hk' : l'.length + arcs'.length < k')
    (h : ∀ p, p ∈ arcs ↔ p ∈ arcs') : orderS l arcs sl k = orderS l' arcs' sl k' := by
  obtain ⟨a1, a2, a3⟩ := orderS_ok hlen hs hn ha hk
  obtain ⟨b1, b2, b3⟩ := orderS_ok hlen' hs (by omega) ha' hk'
  have hg := good_same (sl := sl) h
  by_cases hd : sl.Nodup
  · cases hb : good sl arcs with
    | false => rw [a2 hd hb, b2 hd (hg ▸ hb)]
    | true =>
      obtain ⟨comp, m, F, h1, h2, h3⟩ := a3 hd hb
      obtain ⟨comp', m', F', h4, h5, h6⟩ := b3 hd (hg ▸ hb)
      rw [show l.length = l'.length by omega, PE_same (sl := sl) h] at h1 h2
      obtain ⟨rfl, rfl⟩ := h1.unique h4
      obtain rfl := h2.unique h5
      rw [h3, h6]
  · rw [a1 hd, b1 hd]

/-- Each function answers, with one code for all three. -/
theorem ofS_ends (hlen : sl.length = l.length) (hs : sl.Pairwise (· ≤ ·)) (hn : l.length ≤ 999999) (hk : l.length + arcs.length < k) :
    ∃ ls, ofS l arcs sl k = some (codeV sl arcs, ls) ∧ (codeV sl arcs ≠ 0 → ls = []) ∧ (codeV sl arcs = 0 → ∃ comp m, CompOf l.length (PE sl arcs) comp m ∧ ls = ofL comp sl m) := by
  obtain ⟨a1, a2, a3⟩ := ofS_ok hlen hs hn hk
  unfold codeV
  by_cases hd : sl.Nodup
  · rw [if_pos hd]
    cases hb : good sl arcs with
    | false => exact ⟨_, a2 hd hb, fun _ => rfl, fun h => by simp at h⟩
    | true =>
      obtain ⟨comp, m, h1, h2⟩ := a3 hd hb
      exact ⟨_, h2, fun h => absurd rfl h, fun _ => ⟨comp, m, h1, rfl⟩⟩
  · rw [if_neg hd]
    exact ⟨_, a1 hd, fun _ => rfl, fun h => by simp at h⟩
theorem orderS_ends (hlen : sl.length = l.length) (hs : sl.Pairwise (· ≤ ·)) (hn : l.length ≤ 999999) (ha : arcs.length ≤ 1000000) (hk : l.length + arcs.length < k) :
    ∃ ts, orderS l arcs sl k = some (codeV sl arcs, ts) ∧ (codeV sl arcs ≠ 0 → ts = []) ∧ (codeV sl arcs = 0 → ∃ comp m F, CompOf l.length (PE sl arcs) comp m ∧ IsOrder (Arc l.length (PE sl arcs) comp) m F ∧ ts = F.map (headZ comp sl)) := by
  obtain ⟨a1, a2, a3⟩ := orderS_ok hlen hs hn ha hk
  unfold codeV
  by_cases hd : sl.Nodup
  · rw [if_pos hd]
    cases hb : good sl arcs with
    | false => exact ⟨_, a2 hd hb, fun _ => rfl, fun h => by simp at h⟩
    | true =>
      obtain ⟨comp, m, F, h1, h2, h3⟩ := a3 hd hb
      exact ⟨_, h3, fun h => absurd rfl h, fun _ => ⟨comp, m, F, h1, h2, rfl⟩⟩
  · rw [if_neg hd]
    exact ⟨_, a1 hd, fun _ => rfl, fun h => by simp at h⟩
theorem acyS_ends (hlen : sl.length = l.length) (hs : sl.Pairwise (· ≤ ·)) (hn : l.length ≤ 999999) (hk : l.length + arcs.length < k) :
    ∃ b, acyS l arcs sl k = some (codeV sl arcs, b) ∧ (codeV sl arcs ≠ 0 → b = false) ∧ (codeV sl arcs = 0 → ∃ comp m, CompOf l.length (PE sl arcs) comp m ∧ b = acyB arcs m l.length) := by
  obtain ⟨a1, a2, a3⟩ := acyS_ok hlen hs hn hk
  unfold codeV
  by_cases hd : sl.Nodup
  · rw [if_pos hd]
    cases hb : good sl arcs with
    | false => exact ⟨_, a2 hd hb, fun _ => rfl, fun h => by simp at h⟩
    | true =>
      obtain ⟨comp, m, h1, h2⟩ := a3 hd hb
      exact ⟨_, h2, fun h => absurd rfl h, fun _ => ⟨comp, m, h1, rfl⟩⟩
  · rw [if_neg hd]
    exact ⟨_, a1 hd, fun _ => rfl, fun h => by simp at h⟩
end

end Go.Proofs.Ythlmffjafeodlaa.Tj
