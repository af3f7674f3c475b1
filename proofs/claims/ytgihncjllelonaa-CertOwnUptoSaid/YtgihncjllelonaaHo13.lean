/- scc.Order's plain model: what the first part makes (heads, arcs into, arcs out). -/
import Derived.Test.YtgihncjllelonaaHo12
import Derived.Test.YtgihncjllelonaaHo6
import Derived.Test.YtgihncjllelonaaHo5
import Derived.Test.YtgihncjllelonaaHo11
import Derived.Test.YtgihncjllelonaaRows
import Derived.ProofKit
import Derived.OpenShut
import Derived.Carry
import Derived.Deep.SlicePairs
namespace Go.Proofs.Ytgihncjllelonaa.Tj
set_option linter.unusedSimpArgs false
set_option linter.unusedVariables false

theorem fo_lt : ∀ (l : List Nat) (m nx : Nat), fo l m = some nx → m ≤ nx ∧ ∀ c ∈ l, c < nx
  | [], m, nx, h => by cases h; exact ⟨Nat.le_refl _, by simp⟩
  | c :: r, m, nx, h => by
    rw [fo] at h
    split at h
    · have := fo_lt r m nx h
      exact ⟨this.1, fun d hd => by
        rcases List.mem_cons.1 hd with rfl | hd
        · omega
        · exact this.2 d hd⟩
    · split at h
      · have := fo_lt r (m + 1) nx h
        exact ⟨by omega, fun d hd => by
          rcases List.mem_cons.1 hd with rfl | hd
          · omega
          · exact this.2 d hd⟩
      · cases h

def rowsM (out : List (List Nat)) (k : Nat) : Nat := ((List.range k).map fun v => (out.getD v []).length).sum
end Go.Proofs.Ytgihncjllelonaa.Tj

/- scc.Order's plain model: the components are told as a greedy order. -/
namespace Go.Proofs.Ytgihncjllelonaa.Tj

theorem sum_map_zero {f : Nat → Nat} : ∀ {l : List Nat}, (∀ x ∈ l, f x = 0) → (l.map f).sum = 0
  | [], _ => rfl
  | y :: l, h => by
    rw [List.map_cons, List.sum_cons, h y List.mem_cons_self, sum_map_zero (fun x hx => h x (List.mem_cons.2 (.inr hx)))]

def Greedy (outs : List (List Nat)) (m : Nat) (T : List Nat) : Prop :=
  ∀ P c Q, T = P ++ c :: Q → c < m ∧ c ∉ P ∧ (∀ d, d < m → d ∉ P → c ∉ outs.getD d []) ∧ ∀ c', c' < c → c' ∉ P → ∃ d, d < m ∧ d ∉ P ∧ c' ∈ outs.getD d []

theorem Greedy.snoc {outs : List (List Nat)} {m c : Nat} {T : List Nat} (h : Greedy outs m T) (h1 : c < m) (h2 : c ∉ T) (h3 : ∀ d, d < m → d ∉ T → c ∉ outs.getD d []) (h4 : ∀ c', c' < c → c' ∉ T → ∃ d, d < m ∧ d ∉ T ∧ c' ∈ outs.getD d []) : Greedy outs m (T ++ [c]) := by
  intro P c0 Q he
  rcases List.eq_nil_or_concat Q with rfl | ⟨Q', q, rfl⟩
  · have := List.append_inj' he rfl
    obtain ⟨rfl, hc⟩ := this
    cases hc
    exact ⟨h1, h2, h3, h4⟩
  · rw [show P ++ c0 :: (Q'.concat q) = (P ++ c0 :: Q') ++ [q] by simp] at he
    have := List.append_inj' he rfl
    exact h P c0 Q' this.1

end Go.Proofs.Ytgihncjllelonaa.Tj

/- What scc's three functions answer, told by the sorted vertices and the relation of their edges alone. -/
namespace Go.Proofs.Ytgihncjllelonaa.Tj
set_option linter.unusedSimpArgs false
set_option linter.unusedVariables false

theorem compact_len {sl : List Int} (hs : sl.Pairwise (· ≤ ·)) : (Lib.compact sl).length = sl.length ↔ sl.Nodup := by
  unfold Lib.compact Lib.compactUpTo
  rw [List.length_map]
  have h1 : ((List.range sl.length).filter (Lib.keeps sl.toArray)).length = sl.length ↔ ∀ j ∈ List.range sl.length, Lib.keeps sl.toArray j = true := by
    have := @List.length_filter_eq_length_iff Nat (Lib.keeps sl.toArray) (List.range sl.length)
    rw [List.length_range] at this
    exact this
  rw [h1]
  have hk : ∀ j (hj : j < sl.length), 0 < j → (Lib.keeps sl.toArray j = true ↔ sl[j] ≠ sl[j - 1]'(by omega)) := by
    intro j hj h0
    have e1 : sl.toArray[j]! = sl[j] := by simp [hj]
    have e2 : sl.toArray[j - 1]! = sl[j - 1]'(by omega) := by simp [show j - 1 < sl.length by omega]
    rw [Lib.keeps, e1, e2]
    simp [show j ≠ 0 by omega]
  constructor
  · intro h
    rw [List.nodup_iff_pairwise_ne, List.pairwise_iff_getElem]
    intro i j hi hj hij
    have h2 := (hk j hj (by omega)).1 (h j (List.mem_range.2 hj))
    have h3 : sl[j - 1]'(by omega) ≤ sl[j] := List.pairwise_iff_getElem.1 hs (j - 1) j (by omega) hj (by omega)
    have h4 : sl[i] ≤ sl[j - 1]'(by omega) := by
      rcases Nat.lt_or_ge i (j - 1) with h5 | h5
      · exact List.pairwise_iff_getElem.1 hs i (j - 1) hi (by omega) h5
      · have : i = j - 1 := by omega
        subst this
        exact Int.le_refl _
    omega
  · intro h j hj
    have hj := List.mem_range.1 hj
    rcases Nat.eq_zero_or_pos j with rfl | h0
    · simp [Lib.keeps]
    · rw [hk j hj h0]
      rw [List.nodup_iff_pairwise_ne, List.pairwise_iff_getElem] at h
      exact fun e => h (j - 1) j (by omega) hj (by omega) e.symm

def place (sl : List Int) (x : Int) : Nat := sl.countP (· < x)

def PE (sl : List Int) (arcs : List (Int × Int)) (u v : Nat) : Prop := ∃ p ∈ arcs, place sl p.1 = u ∧ place sl p.2 = v

def good (sl : List Int) (arcs : List (Int × Int)) : Bool := arcs.all fun p => sl.contains p.1 && sl.contains p.2

theorem arcsS_bad {sl : List Int} : ∀ (arcs : List (Int × Int)) (out : List (List Nat)), good sl arcs = false → arcsS sl arcs out = none
  | [], _, h => by simp [good] at h
  | (u, v) :: r, out, h => by
    rw [arcsS]
    split
    · rename_i hc
      refine arcsS_bad r _ ?_
      simp only [good, List.all_cons, hc.1, hc.2, Bool.and_self, Bool.true_and] at h
      exact h
    · rfl

theorem rowsM_set {out : List (List Nat)} {n i x : Nat} (hi : i < n) (hl : i < out.length) : rowsM (out.set i (out.getD i [] ++ [x])) n = rowsM out n + 1 := by
  refine sum_range_one _ _ i 1 n hi ?_ ?_
  · rw [getD_set out i i _ _ hl, if_pos rfl, List.length_append, List.length_singleton]
  · intro y hy
    rw [getD_set out i y _ _ hl, if_neg hy]

theorem arcsS_good {sl : List Int} {n : Nat} (hn : sl.length = n) : ∀ (arcs : List (Int × Int)) (out : List (List Nat)), out.length = n → good sl arcs = true →
    ∃ o, arcsS sl arcs out = some o ∧ o.length = n ∧ rowsM o n = rowsM out n + arcs.length ∧ ∀ u v, Eg o u v ↔ Eg out u v ∨ PE sl arcs u v
  | [], out, hl, _ => ⟨out, rfl, hl, rfl, fun u v => by simp [PE]⟩
  | (a, b) :: r, out, hl, h => by
    simp only [good, List.all_cons, Bool.and_eq_true] at h
    obtain ⟨⟨h1, h2⟩, h3⟩ := h
    have hpl := countP_lt h1
    rw [arcsS, if_pos ⟨h1, h2⟩]
    obtain ⟨o, g1, g2, g3, g4⟩ := arcsS_good hn r (out.set (place sl a) (out.getD (place sl a) [] ++ [place sl b])) (by simpa using hl) h3
    refine ⟨o, g1, g2, ?_, fun u v => ?_⟩
    · rw [g3, rowsM_set (by unfold place; omega) (by unfold place; omega), List.length_cons]
      omega
    · rw [g4]
      unfold Eg
      rw [getD_set out _ u _ _ (by unfold place; omega)]
      constructor
      · rintro (he | ⟨p, hp, e⟩)
        · split at he
          · rename_i hu
            rcases List.mem_append.1 he with he | he
            · rw [hu]; exact .inl he
            · have : v = place sl b := by simpa using he
              exact .inr ⟨(a, b), List.mem_cons_self, hu.symm, this.symm⟩
          · exact .inl he
        · exact .inr ⟨p, List.mem_cons.2 (.inr hp), e⟩
      · rintro (he | ⟨p, hp, e1, e2⟩)
        · left
          split
          · rename_i hu
            rw [← hu]
            exact List.mem_append.2 (.inl he)
          · exact he
        · rcases List.mem_cons.1 hp with rfl | hp
          · left
            rw [if_pos e1.symm]
            exact List.mem_append.2 (.inr (by simp [e2]))
          · exact .inr ⟨p, hp, e1, e2⟩

def grpZ (comp : List Nat) (sl : List Int) (c : Nat) : List Int := ((comp.zip sl).filter fun p => decide (p.1 = c)).map Prod.snd

theorem groupL_ok : ∀ (comp : List Nat) (sl : List Int) (out : List (List Int)), (∀ c ∈ comp, c < out.length) → ∃ ls, groupL comp sl out = some ls ∧ ls.length = out.length ∧ ∀ c, ls.getD c [] = out.getD c [] ++ grpZ comp sl c
  | [], sl, out, _ => ⟨out, by rw [groupL.eq_2]; intros; simp_all, rfl, fun c => by simp [grpZ]⟩
  | c0 :: r, [], out, _ => ⟨out, by rw [groupL.eq_2]; intros; simp_all, rfl, fun c => by simp [grpZ]⟩
  | c0 :: r, x :: xs, out, h => by
    have h0 := h c0 List.mem_cons_self
    rw [groupL, if_pos h0]
    obtain ⟨ls, g1, g2, g3⟩ := groupL_ok r xs (out.set c0 (out.getD c0 [] ++ [x])) (fun c hc => by rw [List.length_set]; exact h c (List.mem_cons.2 (.inr hc)))
    refine ⟨ls, g1, by simpa using g2, fun c => ?_⟩
    rw [g3, getD_set out c0 c _ _ h0]
    by_cases hc : c = c0
    · rw [if_pos hc, hc]
      simp [grpZ, List.zip_cons_cons]
    · rw [if_neg hc]
      have : ¬ c0 = c := fun e => hc e.symm
      simp [grpZ, List.zip_cons_cons, this]

theorem ext_getD {α : Type} {d : α} {a b : List α} (hl : a.length = b.length) (h : ∀ i, i < a.length → a.getD i d = b.getD i d) : a = b := by
  apply List.ext_getElem hl
  intro i h1 h2
  have := h i h1
  rw [List.getD_eq_getElem?_getD, List.getD_eq_getElem?_getD, List.getElem?_eq_getElem h1, List.getElem?_eq_getElem h2] at this
  exact this

def CompOf (n : Nat) (E : Nat → Nat → Prop) (comp : List Nat) (m : Nat) : Prop :=
  comp.length = n ∧ fo comp 0 = some m ∧ ∀ x y, x < n → y < n → (comp.getD x 0 = comp.getD y 0 ↔ Rch E x y ∧ Rch E y x)

def ofL (comp : List Nat) (sl : List Int) (m : Nat) : List (List Int) := (List.range m).map (grpZ comp sl)

theorem unv_zero (n : Nat) (out : List (List Nat)) : unv n out (List.replicate n 0) = rowsM out n + n := by
  have h : ∀ v, (List.replicate n 0).getD v 0 = 0 := fun v => by
    rw [List.getD_eq_getElem?_getD, List.getElem?_replicate]
    split <;> rfl
  unfold unv rowsM
  simp only [h, if_true]
  have : ∀ m, ((List.range m).map fun v => (out.getD v []).length + 1).sum = ((List.range m).map fun v => (out.getD v []).length).sum + m := fun m => by
    induction m with
    | zero => rfl
    | succ m ih => simp [List.range_succ] at *; omega
  exact this n

theorem CompOf.congr {n m : Nat} {E E' : Nat → Nat → Prop} {comp : List Nat} (h : CompOf n E comp m) (hE : ∀ u v, E u v ↔ E' u v) : CompOf n E' comp m := by
  have : E = E' := by funext u v; exact propext (hE u v)
  exact this ▸ h

end Go.Proofs.Ytgihncjllelonaa.Tj

/- What scc's three functions answer: the models' answers. -/
namespace Go.Proofs.Ytgihncjllelonaa.Tj

theorem exists_min {R : Nat → Nat → Prop} (ht : ∀ a b c, R a b → R b c → R a c) (ha : ∀ a b, R a b → R b a → a = b) : ∀ U : List Nat, U ≠ [] → ∃ c ∈ U, ∀ d ∈ U, R d c → d = c
  | [], h => absurd rfl h
  | [a], _ => ⟨a, List.mem_cons_self, fun d hd _ => by simpa using hd⟩
  | a :: b :: U, _ => by
    obtain ⟨c, hc, hm⟩ := exists_min ht ha (b :: U) (by simp)
    by_cases hac : R a c
    · refine ⟨a, List.mem_cons_self, fun d hd hda => ?_⟩
      rcases List.mem_cons.1 hd with rfl | hd
      · rfl
      · have h1 := hm d hd (ht _ _ _ hda hac)
        subst h1
        exact ha _ _ hda hac
    · refine ⟨c, List.mem_cons.2 (.inr hc), fun d hd hdc => ?_⟩
      rcases List.mem_cons.1 hd with rfl | hd
      · exact absurd hdc hac
      · exact hm d hd hdc

theorem fo_mem : ∀ (l : List Nat) (k m : Nat), fo l k = some m → ∀ c, k ≤ c → c < m → c ∈ l
  | [], k, m, h, c, h1, h2 => by cases h; omega
  | x :: r, k, m, h, c, h1, h2 => by
    rw [fo] at h
    split at h
    · exact List.mem_cons.2 (.inr (fo_mem r k m h c h1 h2))
    · split at h
      · rename_i hx
        by_cases hc : c = k
        · exact List.mem_cons.2 (.inl (by omega))
        · exact List.mem_cons.2 (.inr (fo_mem r (k + 1) m h c (by omega) h2))
      · cases h
def Arc (n : Nat) (E : Nat → Nat → Prop) (comp : List Nat) (d x : Nat) : Prop := x ≠ d ∧ ∃ v w, v < n ∧ E v w ∧ comp.getD v 0 = d ∧ comp.getD w 0 = x

theorem CompOf.min {n m : Nat} {E : Nat → Nat → Prop} {comp : List Nat} (h : CompOf n E comp m) (hE : ∀ u v, E u v → v < n) (T : List Nat) (hT : ∃ x, x < m ∧ x ∉ T) : ∃ c, c < m ∧ c ∉ T ∧ ∀ d, d < m → d ∉ T → ¬ Arc n E comp d c := by
  obtain ⟨hl, hf, hk⟩ := h
  obtain ⟨x, hx, hxT⟩ := hT
  let R : Nat → Nat → Prop := fun d c => ∃ v w, v < n ∧ w < n ∧ comp.getD v 0 = d ∧ comp.getD w 0 = c ∧ Rch E v w
  have ht : ∀ a b c, R a b → R b c → R a c := by
    rintro a b c ⟨v, w, h1, h2, h3, h4, h5⟩ ⟨v', w', g1, g2, g3, g4, g5⟩
    have := ((hk w v' h2 g1).1 (h4.trans g3.symm)).1
    exact ⟨v, w', h1, g2, h3, g4, (h5.trans this).trans g5⟩
  have ha : ∀ a b, R a b → R b a → a = b := by
    rintro a b ⟨v, w, h1, h2, h3, h4, h5⟩ ⟨v', w', g1, g2, g3, g4, g5⟩
    have e1 := ((hk w v' h2 g1).1 (h4.trans g3.symm)).1
    have e2 := ((hk w' v g2 h1).1 (g4.trans h3.symm)).1
    rw [← h3, ← h4]
    exact (hk v w h1 h2).2 ⟨h5, (e1.trans g5).trans e2⟩
  obtain ⟨c, hc, hmin⟩ := exists_min ht ha ((List.range m).filter fun d => decide (d ∉ T)) (by
    intro he
    have : x ∈ (List.range m).filter fun d => decide (d ∉ T) := by simp [hx, hxT]
    rw [he] at this
    simp at this)
  simp only [List.mem_filter, List.mem_range, decide_eq_true_eq] at hc hmin
  refine ⟨c, hc.1, hc.2, fun d hd hdT hA => ?_⟩
  obtain ⟨hne, v, w, h1, h2, h3, h4⟩ := hA
  exact hne (hmin d ⟨hd, hdT⟩ ⟨v, w, h1, hE v w h2, h3, h4, .one h2⟩).symm

theorem PE_lt {sl : List Int} {arcs : List (Int × Int)} (h : good sl arcs = true) {u v : Nat} (hp : PE sl arcs u v) : u < sl.length ∧ v < sl.length := by
  obtain ⟨p, hp, rfl, rfl⟩ := hp
  have := List.all_eq_true.1 h p hp
  simp only [Bool.and_eq_true] at this
  exact ⟨countP_lt this.1, countP_lt this.2⟩

section
variable {l sl : List Int} {arcs : List (Int × Int)} {k : Nat}

theorem graph_ok (hlen : sl.length = l.length) (hg : good sl arcs = true) (hn : l.length ≤ 999999) (hk : l.length + arcs.length < k) :
    ∃ out comp m, arcsS sl arcs (List.replicate l.length []) = some out ∧ out.length = l.length ∧ rowsM out l.length = arcs.length ∧ (∀ u v, Eg out u v ↔ PE sl arcs u v) ∧ compsS l.length out k = some (comp, m) ∧ CompOf l.length (PE sl arcs) comp m := by
  obtain ⟨out, g1, g2, g3, g4⟩ := arcsS_good hlen arcs (List.replicate l.length []) (by simp) hg
  have h0 : ∀ u, (List.replicate l.length ([] : List Nat)).getD u [] = [] := fun u => by
    rw [List.getD_eq_getElem?_getD, List.getElem?_replicate]
    split <;> rfl
  have hr0 : rowsM (List.replicate l.length []) l.length = 0 := sum_map_zero (fun x _ => by rw [h0]; rfl)
  have hE : ∀ u v, Eg out u v ↔ PE sl arcs u v := fun u v => by
    rw [g4]
    constructor
    · rintro (h | h)
      · unfold Eg at h
        rw [h0] at h
        simp at h
      · exact h
    · exact .inr
  have hlt : ∀ u v, Eg out u v → v < l.length := fun u v h => by
    have := (PE_lt hg ((hE u v).1 h)).2
    omega
  obtain ⟨comp, m, c1, c2⟩ := comps_ok (n := l.length) (k := k) (by omega) hlt (by rw [unv_zero]; omega)
  exact ⟨out, comp, m, g1, g2, by omega, hE, c1, CompOf.congr (E := Eg out) c2 hE⟩

theorem ofS_ok (hlen : sl.length = l.length) (hs : sl.Pairwise (· ≤ ·)) (hn : l.length ≤ 999999) (hk : l.length + arcs.length < k) :
    (¬ sl.Nodup → ofS l arcs sl k = some (2, [])) ∧ (sl.Nodup → good sl arcs = false → ofS l arcs sl k = some (5, [])) ∧
    (sl.Nodup → good sl arcs = true → ∃ comp m, CompOf l.length (PE sl arcs) comp m ∧ ofS l arcs sl k = some (0, ofL comp sl m)) := by
  have hc := compact_len hs
  rw [hlen] at hc
  unfold ofS
  refine ⟨fun h => by rw [if_neg (fun e => h (hc.1 e))], fun h hb => by rw [if_pos (hc.2 h), arcsS_bad _ _ hb], fun h hg => ?_⟩
  rw [if_pos (hc.2 h)]
  obtain ⟨out, comp, m, g1, g2, g3, g4, g5, g6⟩ := graph_ok hlen hg hn hk
  have hfo := fo_lt comp 0 m g6.2.1
  obtain ⟨ls, e1, e2, e3⟩ := groupL_ok comp sl (List.replicate m []) (fun c hc => by rw [List.length_replicate]; exact hfo.2 c hc)
  rw [g1]
  dsimp only
  rw [g5, Option.bind_some]
  dsimp only
  rw [e1]
  refine ⟨comp, m, g6, ?_⟩
  have : ls = ofL comp sl m := by
    refine ext_getD (d := []) (by rw [e2]; simp [ofL]) (fun i hi => ?_)
    rw [e2, List.length_replicate] at hi
    rw [e3, ofL, List.getD_eq_getElem?_getD, List.getD_eq_getElem?_getD, List.getElem?_replicate, if_pos hi, List.getElem?_map, List.getElem?_range hi]
    simp
  rw [this]
  rfl

end

end Go.Proofs.Ytgihncjllelonaa.Tj

/- The components and their order are determined by the relation of the edges. -/
namespace Go.Proofs.Ytgihncjllelonaa.Tj

end Go.Proofs.Ytgihncjllelonaa.Tj

/- What scc's functions answer is the same for lists of the same vertices and arcs; turned arcs leave the components. -/
namespace Go.Proofs.Ytgihncjllelonaa.Tj

def codeV (sl : List Int) (arcs : List (Int × Int)) : Nat := if sl.Nodup then (if good sl arcs then 0 else 5) else 2

theorem Rch.head {E : Nat → Nat → Prop} {a b c : Nat} (h : E a b) (h' : Rch E b c) : Rch E a c := (Rch.step (Rch.refl a) h).trans h'
theorem Rch.turn {E E' : Nat → Nat → Prop} (h : ∀ u v, E u v → E' v u) {x y : Nat} (hr : Rch E x y) : Rch E' y x := by
  induction hr with
  | refl => exact .refl _
  | step _ he ih => exact Rch.head (h _ _ he) ih

theorem good_iff {sl : List Int} {arcs : List (Int × Int)} : good sl arcs = true ↔ ∀ p ∈ arcs, sl.contains p.1 = true ∧ sl.contains p.2 = true := by
  simp [good]
section
variable {l l' : List Int} {arcs arcs' : List (Int × Int)} {sl : List Int} {k k' : Nat}
theorem ofS_ends (hlen : sl.length = l.length) (hs : sl.Pairwise (· ≤ ·)) (hn : l.length ≤ 999999) (hk : l.length + arcs.length < k) :
    ∃ ls, ofS l arcs sl k = some (codeV sl arcs, ls) ∧ (codeV sl arcs ≠ 0 → ls = []) ∧ (codeV sl arcs = 0 → ∃ comp m, CompOf l.length (PE sl arcs) comp m ∧ ls = ofL comp sl m) := by
  obtain ⟨a1, a2, a3⟩ := ofS_ok hlen hs hn hk
  unfold codeV
  by_cases hd : sl.Nodup
  · rw [if_pos hd]
    cases hb : good sl arcs with
    | false => exact ⟨_, a2 hd hb, fun _ => rfl, fun h => by simp at h⟩
    | true =>
      obtain ⟨comp, m, h1, h2⟩ := a3 hd hb
      exact ⟨_, h2, fun h => absurd rfl h, fun _ => ⟨comp, m, h1, rfl⟩⟩
  · rw [if_neg hd]
    exact ⟨_, a1 hd, fun _ => rfl, fun h => by simp at h⟩
end

end Go.Proofs.Ytgihncjllelonaa.Tj

/- Rows read as lists; the document's example: what scc.Of answers there. -/
namespace Go.Proofs.Ytgihncjllelonaa.Lw
open Go Go.RowKit Go.Proofs.Ytgihncjllelonaa.Mem Go.Proofs.Ytgihncjllelonaa.Sl Go.Proofs.Ytgihncjllelonaa.Scc Go.Proofs.Ytgihncjllelonaa.Tj Go.Proofs.YtgihncjllelonaaW.PrintWords Go.Proofs.YtgihncjllelonaaW.PrintLast
attribute [local go_sem ↓] Go.wp_at_zero Go.wp_at_succ
set_option linter.unusedSimpArgs false
set_option linter.unusedVariables false

def arcs2 (l : List (Int × Int)) : List Value := l.flatMap fun p => [.int .i64 p.1, .int .i64 p.2]
theorem arcs2_cons (p : Int × Int) (l : List (Int × Int)) : arcs2 (p :: l) = .int .i64 p.1 :: .int .i64 p.2 :: arcs2 l := rfl
theorem arcs2_length : ∀ l : List (Int × Int), (arcs2 l).length = l.length * 2
  | [] => rfl
  | p :: l => by rw [arcs2_cons, List.length_cons, List.length_cons, arcs2_length l, List.length_cons]; omega
theorem arcs2_append (l l' : List (Int × Int)) : arcs2 (l ++ l') = arcs2 l ++ arcs2 l' := by simp [arcs2]
theorem arcs2_at : ∀ (l : List (Int × Int)) (j : Nat) (u v : Int), l[j]? = some (u, v) → (arcs2 l)[j * 2]? = some (.int .i64 u) ∧ (arcs2 l)[j * 2 + 1]? = some (.int .i64 v)
  | [], j, u, v, h => by simp at h
  | p :: l, 0, u, v, h => by
    have : p = (u, v) := by simpa using h
    subst this
    exact ⟨rfl, rfl⟩
  | p :: l, j + 1, u, v, h => by
    have := arcs2_at l j u v (by simpa using h)
    rw [arcs2_cons, show (j + 1) * 2 = j * 2 + 2 by omega]
    exact this
theorem ints_take (l : List Int) (q : Nat) : (ints l).take q = ints (l.take q) := by simp [ints]
theorem ints_one (l : List Int) : ∀ u ∈ ints l, u.oneCell' = true := by
  intro u hu
  simp only [ints, List.mem_map] at hu
  obtain ⟨x, _, rfl⟩ := hu
  rfl

theorem cell_flat {w : World} {base size n c : Nat} {e : TypeId} {A : Option Addr} {xs : List Value} (h : w.ownsRow base e size (.slice A n c) n xs) (hn : 0 < n) : ∃ g, A = some ⟨g, 0, none⟩ ∧ base ≤ g ∧ ∀ j u, xs[j]? = some u → w.cell? ⟨g, j, none⟩ = some u := by
  obtain ⟨g, cap, hv, hb, _⟩ := h.form hn
  cases hv
  refine ⟨g, rfl, hb, fun j u hu => ?_⟩
  have := h.cells (g := g) rfl j u hu
  rw [add_plain] at this
  simpa using this

theorem RdA.of_own {w : World} {base n c : Nat} {e : TypeId} {A : Option Addr} {l : List (Int × Int)} (h : w.ownsRow base e 2 (.slice A n c) n (arcs2 l)) : RdA w A l ∧ n = l.length := by
  have hn : n = l.length := by have := h.1; rw [arcs2_length] at this; omega
  refine ⟨fun j u v hx => ?_, hn⟩
  have hj : j < l.length := (List.getElem?_eq_some_iff.1 hx).1
  obtain ⟨g, rfl, _, hc⟩ := cell_flat h (by omega)
  exact ⟨g, rfl, hc _ _ (arcs2_at l j u v hx).1, hc _ _ (arcs2_at l j u v hx).2⟩

theorem RdI.lit (w : World) (l : List Int) (T : TypeId) : RdI (w.alloc (.cells (ints l).toArray T)) (some ⟨w.heap.size, 0, none⟩) l := fun j x hx =>
  ⟨_, rfl, (At.new w (ints l).toArray T).cell j (Mem.ints_at l hx)⟩
theorem RdA.lit (w : World) (l : List (Int × Int)) (T : TypeId) : RdA (w.alloc (.cells (arcs2 l).toArray T)) (some ⟨w.heap.size, 0, none⟩) l := fun j u v hx =>
  ⟨_, rfl, (At.new w (arcs2 l).toArray T).cell _ (arcs2_at l j u v hx).1, (At.new w (arcs2 l).toArray T).cell _ (arcs2_at l j u v hx).2⟩

theorem RdL.of_rows {w : World} {base bo n : Nat} {vals : List Value} {ls : List (List Int)} (h : RwsI w base bo n vals ls) : RdL w (some ⟨bo, 0, none⟩) ls := fun i r hr => by
  have hi : i < ls.length := (List.getElem?_eq_some_iff.1 hr).1
  have hiv : i < vals.length := by rw [h.lv, ← h.lo]; exact hi
  have hv : vals[i]? = some vals[i] := List.getElem?_eq_getElem hiv
  have ho := h.own i _ r hv hr
  obtain ⟨A, c, he⟩ : ∃ A c, vals[i] = .slice A r.length c := by
    rcases ho.2 with ⟨h1, h2⟩ | ⟨g, cap, _, h1, _⟩
    · rw [h2]; exact ⟨none, 0, h1⟩
    · exact ⟨_, _, h1⟩
  refine ⟨bo, A, c, rfl, he ▸ h.hat.cell i hv, ?_⟩
  rw [he] at ho
  exact (RdI.of_own ho).1

theorem own_slice {w : World} {base size n : Nat} {e : TypeId} {v : Value} {xs : List Value} (h : w.ownsRow base e size v n xs) : ∃ A c, v = .slice A n c := by
  rcases h.2 with ⟨h1, rfl⟩ | ⟨g, cap, _, h1, _⟩
  · exact ⟨none, 0, h1⟩
  · exact ⟨_, _, h1⟩

theorem sorted_same {l l' : List Int} (h : l.Perm l') : sorted l = sorted l' := by
  have ht : ∀ a b c : Int, decide (a ≤ b) = true → decide (b ≤ c) = true → decide (a ≤ c) = true := by
    intro a b c h1 h2
    simp only [decide_eq_true_eq] at *
    omega
  have hto : ∀ a b : Int, (decide (a ≤ b) || decide (b ≤ a)) = true := by
    intro a b
    simp only [Bool.or_eq_true, decide_eq_true_eq]
    omega
  have p1 := List.pairwise_mergeSort ht hto l
  have p2 := List.pairwise_mergeSort ht hto l'
  have hp : (sorted l).Perm (sorted l') := ((List.mergeSort_perm l _).trans h).trans (List.mergeSort_perm l' _).symm
  refine List.Perm.eq_of_pairwise (le := fun a b => decide (a ≤ b) = true) ?_ p1 p2 hp
  intro a b _ _ h1 h2
  simp only [decide_eq_true_eq] at h1 h2
  omega
theorem sorted_rising (l : List Int) : (sorted l).Pairwise (· ≤ ·) := by
  have p1 := List.pairwise_mergeSort (le := fun x y : Int => decide (x ≤ y)) (by intro a b c h1 h2; simp only [decide_eq_true_eq] at *; omega) (by intro a b; simp only [Bool.or_eq_true, decide_eq_true_eq]; omega) l
  exact p1.imp fun h => by simpa using h
theorem sorted_of {l sl : List Int} (hp : l.Perm sl) (hs : sl.Pairwise (· ≤ ·)) : sorted l = sl := by
  rw [sorted_same hp]
  unfold sorted
  exact List.mergeSort_of_pairwise (hs.imp fun h => by simpa using h)

end Go.Proofs.Ytgihncjllelonaa.Lw

/- Rows read, small facts of the laws of scc. -/
namespace Go.Proofs.Ytgihncjllelonaa.Lw
open Go Go.RowKit Go.Proofs.Ytgihncjllelonaa.Mem Go.Proofs.Ytgihncjllelonaa.Sl Go.Proofs.Ytgihncjllelonaa.Scc Go.Proofs.Ytgihncjllelonaa.Tj Go.Proofs.YtgihncjllelonaaW.PrintWords Go.Proofs.YtgihncjllelonaaW.PrintLast
attribute [local go_sem ↓] Go.wp_at_zero Go.wp_at_succ
set_option linter.unusedSimpArgs false
set_option linter.unusedVariables false

theorem ArgV.below {w w' : World} {v : Value} {n size : Nat} {news : List Value} (h : ArgV w v n size news) (hb : Below w.heap.size w w') : ArgV w' v n size news := by
  refine ⟨h.1, h.2.1, h.2.2.imp id ?_⟩
  rintro ⟨ad, c, e, hn, hc⟩
  exact ⟨ad, c, e, hn, fun j u hu => (hb.cell (World.block_lt_of_cell? w _ (hc j u hu))).trans (hc j u hu)⟩

theorem RdL.nil (w : World) (A : Option Addr) : RdL w A [] := fun i r h => by simp at h

theorem of_rd (w : World) (Av Aa : Option Addr) (cv ca : Nat) (l : List Int) (arcs : List (Int × Int)) (hv : RdI w Av l) (ha : RdA w Aa arcs) (hn : l.length ≤ 999999) (hm : arcs.length ≤ 1000000)
    (k code : Nat) (ls : List (List Int)) (hR : ofS l arcs (sorted l) k = some (code, ls)) (hz : code ≠ 0 → ls = []) :
    Calls Try.prog 20 #[.slice Av l.length cv, .slice Aa arcs.length ca] w fun e w' => ∃ A c, e = .returned (.tuple #[.slice A ls.length c, .int .i64 (code : Int)]) ∧ RdL w' A ls ∧ Below w.heap.size w w' := by
  refine (of_calls w Av Aa cv ca _ _ l arcs ls hv ha (by omega) hm hR).mono ?_
  rintro e w' ⟨hb, h1, h2⟩
  by_cases hc : code = 0
  · obtain ⟨bo, vals, he, _, hrows⟩ := h2 hc
    rw [hc]
    exact ⟨_, _, he, RdL.of_rows hrows, hb⟩
  · rw [hz hc]
    exact ⟨none, 0, h1 hc, RdL.nil _ _, hb⟩

theorem One.start {w0 : World} {e : TypeId} {size : Nat} : One w0 e size (.slice none 0 0) 0 [] w0 := ⟨World.ownsRow_nil _ _ _ _, Below.refl _ _⟩
theorem One.startAt {w0 W : World} {e : TypeId} {size : Nat} (hb : Below w0.heap.size w0 W) : One w0 e size (.slice none 0 0) 0 [] W := ⟨World.ownsRow_nil _ _ _ _, hb⟩
theorem Two.startAt {w0 W : World} {e e' : TypeId} {size size' : Nat} (hb : Below w0.heap.size w0 W) : Two w0 e size (.slice none 0 0) 0 [] e' size' (.slice none 0 0) 0 [] W := ⟨World.ownsRow_nil _ _ _ _, World.ownsRow_nil _ _ _ _, fun k h => by simp [Value.ownBlock] at h, hb⟩

theorem cell_al {w : World} {a : Addr} {v : Value} (h : w.cell? a = some v) (o : Obj) : (w.alloc o).cell? a = some v :=
  (((Below.refl w.heap.size w).alloc (Nat.le_refl _) o).cell (World.block_lt_of_cell? w _ h)).trans h
theorem fo_bound : ∀ (l : List Nat) (k m : Nat), fo l k = some m → m ≤ k + l.length
  | [], k, m, h => by
    rw [fo] at h
    cases h
    simp
  | c :: r, k, m, h => by
    rw [fo] at h
    rw [List.length_cons]
    split at h
    · have := fo_bound r k m h
      omega
    · split at h
      · have := fo_bound r (k + 1) m h
        omega
      · cases h
theorem grpZ_length (comp : List Nat) (sl : List Int) (c : Nat) : (grpZ comp sl c).length ≤ comp.length := by
  unfold grpZ
  rw [List.length_map]
  refine Nat.le_trans (List.length_filter_le _ _) ?_
  rw [List.length_zip]
  exact Nat.min_le_left _ _
theorem of_small {l : List Int} {arcs : List (Int × Int)} {sl : List Int} {ls : List (List Int)} {code : Nat} (hz : code ≠ 0 → ls = []) (h0 : code = 0 → ∃ comp m, CompOf l.length (PE sl arcs) comp m ∧ ls = ofL comp sl m) : ls.length ≤ l.length ∧ ∀ r ∈ ls, r.length ≤ l.length := by
  by_cases hc : code = 0
  · obtain ⟨comp, m, h, rfl⟩ := h0 hc
    have := fo_bound comp 0 m h.2.1
    have hl := h.1
    refine ⟨by simp [ofL]; omega, fun r hr => ?_⟩
    simp only [ofL, List.mem_map] at hr
    obtain ⟨c, _, rfl⟩ := hr
    have := grpZ_length comp sl c
    omega
  · rw [hz hc]
    simp
end Go.Proofs.Ytgihncjllelonaa.Lw

/- The arguments of the laws read as lists. -/
namespace Go.Proofs.Ytgihncjllelonaa.Lw
open Go Go.RowKit Go.ChangeShapes Go.WideShapes Go.ChangeAt Go.Deep Go.Proofs.Ytgihncjllelonaa.Mem
set_option linter.unusedSimpArgs false
set_option linter.unusedVariables false

theorem own : ownKnob Try.prog.godebug = none := by kernel_rfl
theorem laidOut : laidOutB Try.prog = true := by kernel_rfl
theorem cells_int : Try.prog.cellsOf 3 = 1 := by kernel_rfl
section
variable {H : Type} {enc : TypeId × Value → H} {W : World} {base : Nat} {v : Value} {d : DataW H} {p : List MemPlace}

set_option maxRecDepth 100000 in
theorem ints_in (hv : Value.okWide Try.prog W .any base 22 v) (h : DataW.Trod enc Try.prog W 0 (fun _ => true) true 22 v d p) : ∃ l : List Int, ArgV W v l.length 1 (ints l) := by
  obtain ⟨a0, len, cap, rfl⟩ := okWide_slice Try.underlying22 hv
  obtain ⟨fuel, hf⟩ := h
  rcases open_ints Try.underlying22 Try.underlying3 cells_int hf with ⟨hcs, hx⟩ | ⟨a, len', cap', zs, hcs, _, hl, hm, hz, hx, hcell, hwz⟩
  · simp [Value.cells] at hcs
    obtain ⟨rfl, rfl, rfl⟩ := hcs
    exact ⟨[], rfl, by simp [ints], .inl ⟨rfl, rfl⟩⟩
  · simp [Value.cells] at hcs
    obtain ⟨rfl, rfl, rfl⟩ := hcs
    simp only [if_true] at hz
    have hlen : (zs.take len).length = len := by rw [List.length_take]; omega
    refine ⟨zs.take len, by rw [ints_length, Nat.mul_one], ints_one _, .inr ⟨a, cap, by rw [hlen], by rw [hlen]; exact hl, fun j u hu => ?_⟩⟩
    have hj : j < len := by
      have := (List.getElem?_eq_some_iff.1 hu).1
      rw [ints_length, hlen] at this
      exact this
    rw [hcell j (by omega), ← hu]
    have he : (zs.take len)[j]? = some (zs.getD j 0) := by
      rw [List.getElem?_take, if_pos hj, List.getD_eq_getElem?_getD, List.getElem?_eq_getElem (by omega)]
      rfl
    exact (Mem.ints_at _ he).symm

end

end Go.Proofs.Ytgihncjllelonaa.Lw
