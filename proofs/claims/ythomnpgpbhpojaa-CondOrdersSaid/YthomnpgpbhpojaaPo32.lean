/- Plain: the index and the graph; what asks compares. -/
import Derived.Test.YthomnpgpbhpojaaPo31
import Derived.Test.YthomnpgpbhpojaaPo7
import Derived.Test.YthomnpgpbhpojaaPo25
namespace Go.Proofs.Ythomnpgpbhpojaa.Cd
open Go Go.RowKit Go.Proofs.Ythomnpgpbhpojaa.Mem Go.Proofs.Ythomnpgpbhpojaa.Sl Go.Proofs.Ythomnpgpbhpojaa.Scc Go.Proofs.Ythomnpgpbhpojaa.Tj Go.Proofs.Ythomnpgpbhpojaa.Lw Go.Proofs.Ythomnpgpbhpojaa.Pt
set_option linter.unusedSimpArgs false
set_option linter.unusedVariables false

structure Sy (arcs : Int → Option (Int × Int)) (cls : Int → Option Nat) (vs : List Int) (es : List (Int × Int × Int)) : Prop where
  up : vs.Pairwise (· < ·)
  cv : ∀ x, cls x ≠ none ↔ x ∈ vs
  un : Uni es
  ae : ∀ e u v, arcs e = some (u, v) ↔ (e, u, v) ∈ es
  pi : PI (Ra arcs) cls
  en : ∀ e p, arcs e = some p → cls p.1 ≠ none ∧ cls p.2 ≠ none
section
variable {arcs : Int → Option (Int × Int)} {cls cls' : Int → Option Nat} {row : Nat → List Int} {vs : List Int} {es : List (Int × Int × Int)} {ls : List (List Int)} {e u v lk : Int}
theorem Sy.new : Sy (fun _ => none) (fun _ => none) [] [] :=
  ⟨List.Pairwise.nil, by simp, fun i j p q h => by simp at h, by simp, fun x y h => absurd rfl h, fun e p h => by cases h⟩
theorem Sy.no (h : Sy arcs cls vs es) (he : arcs e = none) : ∀ p ∈ es, p.1 ≠ e := fun ⟨a, b, c⟩ hp h1 => by
  have h1 : a = e := h1
  subst h1
  rw [(h.ae a b c).2 hp] at he
  cases he
theorem Sy.noarc (h : Sy arcs cls vs es) (hn : ∀ p ∈ es, p.1 ≠ e) : arcs e = none := by
  cases hx : arcs e with
  | none => rfl
  | some p => exact absurd rfl (hn (e, p.1, p.2) ((h.ae e p.1 p.2).1 hx))
theorem Sy.keys (h : Sy arcs cls vs es) : ∀ e, arcs e ≠ none → e ∈ es.map (·.1) := fun e he => by
  obtain ⟨p, hp⟩ := Option.ne_none_iff_exists'.1 he
  exact List.mem_map.2 ⟨_, (h.ae e p.1 p.2).1 hp, rfl⟩
theorem sorted_up {l : List Int} (hn : l.Nodup) : (sorted l).Pairwise (· < ·) := lt_of_nodup (sorted_rising l) ((List.mergeSort_perm l _).nodup_iff.2 hn)
theorem nodup_of_up {l : List Int} (h : l.Pairwise (· < ·)) : l.Nodup := h.imp fun hlt he => by omega
theorem Sy.addv (h : Sy arcs cls vs es) (hv : v ∉ vs) (hn : NewV cls cls' v) : Sy arcs cls' (sorted (vs ++ [v])) es := by
  have hvn : cls v = none := by
    cases hx : cls v with
    | none => rfl
    | some b => exact absurd ((h.cv v).1 (by rw [hx]; simp)) hv
  refine ⟨sorted_up ?_, fun x => ?_, h.un, h.ae, h.pi.newv hn hvn h.en, fun e p hp => ?_⟩
  · rw [List.nodup_append]
    refine ⟨nodup_of_up h.up, by simp, fun a ha b hb e => ?_⟩
    simp only [List.mem_singleton] at hb
    subst hb e
    exact hv ha
  · have hm : x ∈ sorted (vs ++ [v]) ↔ x ∈ vs ++ [v] := List.mem_mergeSort
    rw [hm, List.mem_append, List.mem_singleton, ← h.cv]
    by_cases e : x = v
    · subst e
      obtain ⟨_, b, hb, _⟩ := hn
      simp [hb]
    · rw [hn.1 x e]
      simp [e]
  · have := h.en e p hp
    have h2 : ∀ x, cls x ≠ none → cls' x ≠ none := fun x hx => by
      by_cases e : x = v
      · subst e; exact absurd hvn hx
      · rw [hn.1 x e]; exact hx
    exact ⟨h2 _ this.1, h2 _ this.2⟩
theorem Sy.dropv (h : Sy arcs cls vs es) (ha : ∀ p ∈ es, p.2.1 ≠ v ∧ p.2.2 ≠ v) : Sy arcs (fun x => if x = v then none else cls x) (vs.filter fun x => decide (x ≠ v)) es := by
  refine ⟨h.up.filter _, fun x => ?_, h.un, h.ae, h.pi.drop, fun e p hp => ?_⟩
  · rw [List.mem_filter, ← h.cv]
    by_cases e : x = v <;> simp [e]
  · have h1 := ha _ ((h.ae e p.1 p.2).1 hp)
    have h2 := h.en e p hp
    rw [if_neg h1.1, if_neg h1.2]
    exact h2
theorem Sy.adda (h : Sy arcs cls vs es) (he : ∀ p ∈ es, p.1 ≠ e) (hu : u ∈ vs) (hv : v ∈ vs) (hP : AddP (addA arcs e u v) cls cls' u v lk) : Sy (addA arcs e u v) cls' vs (es ++ [(e, u, v)]) := by
  have hu' := (h.cv u).2 hu
  have hv' := (h.cv v).2 hv
  have hen := h.noarc he
  have hcn : ∀ x, cls' x = none ↔ cls x = none := by
    rcases hP with ⟨_, _, rfl⟩ | ⟨_, S, _, _, ⟨_, _, rfl⟩ | ⟨_, T, _, _, _, hJ⟩⟩
    · exact fun _ => Iff.rfl
    · exact fun _ => Iff.rfl
    · exact hJ.1
  refine ⟨h.up, fun x => by rw [← h.cv]; exact not_congr (hcn x), ?_, fun a b c => ?_, h.pi.add hen hu' hv' hP, fun a p hp => ?_⟩
  · intro i j p q hi hj hpq
    have key : ∀ (i : Nat) (p : Int × Int × Int), (es ++ [(e, u, v)])[i]? = some p → (i < es.length ∧ es[i]? = some p) ∨ (i = es.length ∧ p = (e, u, v)) := fun i p hp => by
      rcases Nat.lt_or_ge i es.length with hl | hl
      · rw [List.getElem?_append_left hl] at hp
        exact .inl ⟨hl, hp⟩
      · rw [List.getElem?_append_right hl] at hp
        rcases Nat.eq_zero_or_pos (i - es.length) with h0 | h0
        · rw [h0] at hp
          cases hp
          exact .inr ⟨by omega, rfl⟩
        · rw [List.getElem?_eq_none (by simp; omega)] at hp
          cases hp
    rcases key i p hi with ⟨_, h1⟩ | ⟨h1, rfl⟩ <;> rcases key j q hj with ⟨_, h2⟩ | ⟨h2, rfl⟩
    · exact h.un i j p q h1 h2 hpq
    · exact absurd hpq (he p (List.mem_of_getElem? h1))
    · exact absurd hpq.symm (he q (List.mem_of_getElem? h2))
    · omega
  · rw [List.mem_append, List.mem_singleton, ← h.ae]
    unfold addA
    by_cases e1 : a = e
    · subst e1
      rw [if_pos rfl, hen]
      simp only [Option.some.injEq, Prod.mk.injEq, true_and, reduceCtorEq, false_or]
      exact ⟨fun h => ⟨h.1.symm, h.2.symm⟩, fun h => ⟨h.1.symm, h.2.symm⟩⟩
    · rw [if_neg e1]
      simp [e1]
  · rw [Ne, Ne, hcn, hcn]
    unfold addA at hp
    by_cases e1 : a = e
    · rw [if_pos e1] at hp
      cases hp
      exact ⟨hu', hv'⟩
    · rw [if_neg e1] at hp
      exact h.en a p hp
theorem uni_filter {es : List (Int × Int × Int)} (h : Uni es) (q : Int × Int × Int → Bool) : Uni (es.filter q) := by
  induction es with
  | nil => exact fun i j p q h => by simp at h
  | cons a r ih =>
    have hr : Uni r := fun i j p q hi hj hpq => by
      have := h (i + 1) (j + 1) p q (by simpa using hi) (by simpa using hj) hpq
      omega
    have hi := ih hr
    rw [List.filter_cons]
    split
    · intro i j p q' hpi hpj hpq
      have hno : ∀ (k : Nat) (x : Int × Int × Int), (r.filter q)[k]? = some x → a.1 ≠ x.1 := fun k x hx e => by
        obtain ⟨t, ht⟩ := List.mem_iff_getElem?.1 (List.mem_filter.1 (List.mem_of_getElem? hx)).1
        have := h 0 (t + 1) a x rfl (by simpa using ht) e
        omega
      cases i with
      | zero =>
        cases j with
        | zero => rfl
        | succ j =>
          simp only [List.getElem?_cons_zero, Option.some.injEq, List.getElem?_cons_succ] at hpi hpj
          subst hpi
          exact absurd hpq (hno j q' hpj)
      | succ i =>
        cases j with
        | zero =>
          simp only [List.getElem?_cons_zero, Option.some.injEq, List.getElem?_cons_succ] at hpi hpj
          subst hpj
          exact absurd hpq.symm (hno i p hpi)
        | succ j =>
          simp only [List.getElem?_cons_succ] at hpi hpj
          have := hi i j p q' hpi hpj hpq
          omega
    · exact hi
theorem Sy.dela (h : Sy arcs cls vs es) (he : (e, u, v) ∈ es) (hP : DropP (delA arcs e) cls cls' u v lk) : Sy (delA arcs e) cls' vs (es.filter fun p => decide (p.1 ≠ e)) := by
  have hae := (h.ae e u v).2 he
  have hcn : ∀ x, cls' x = none ↔ cls x = none := by
    rcases hP with ⟨_, _, rfl⟩ | ⟨_, _, S, _, _, _, hp⟩
    · exact fun _ => Iff.rfl
    · exact hp.1
  refine ⟨h.up, fun x => by rw [← h.cv]; exact not_congr (hcn x), uni_filter h.un _, fun a b c => ?_, h.pi.del hae h.en hP, fun a p hp => ?_⟩
  · rw [List.mem_filter, ← h.ae]
    unfold delA
    by_cases e1 : a = e <;> simp [e1]
  · rw [Ne, Ne, hcn, hcn]
    unfold delA at hp
    by_cases e1 : a = e
    · rw [if_pos e1] at hp
      cases hp
    · rw [if_neg e1] at hp
      exact h.en a p hp
def RowOk (cls : Int → Option Nat) (row : Nat → List Int) : Prop := ∀ v b, cls v = some b → (∀ x, x ∈ row b ↔ cls x = some b) ∧ (row b).Nodup
theorem Sy.single (h : Sy arcs cls vs es) (hr : RowOk cls row) (ha : ∀ p ∈ es, p.2.1 ≠ v ∧ p.2.2 ≠ v) {b : Nat} (hb : cls v = some b) : row b = [v] := by
  obtain ⟨h1, h2⟩ := hr v b hb
  have hall : ∀ x, x ∈ row b ↔ x = v := fun x => by
    rw [h1]
    constructor
    · intro hx
      have hm := (h.pi v x (by rw [hb]; simp) (by rw [hx]; simp)).1 (hb.trans hx.symm)
      have hout : ∀ y, Cl (Ra arcs) v y → y = v := fun y hy => by
        induction hy with
        | base => rfl
        | step _ he ih =>
          subst ih
          obtain ⟨e, he⟩ := he
          exact absurd rfl (ha _ ((h.ae e _ _).1 he)).1
      exact hout x hm.1
    · rintro rfl
      exact hb
  match hl : row b with
  | [] => rw [hl] at hall; simpa using (hall v).2 rfl
  | [a] =>
    rw [hl] at hall
    rw [(hall a).1 (by simp)]
  | a :: c :: r =>
    rw [hl] at hall h2
    have e1 := (hall a).1 (by simp)
    have e2 := (hall c).1 (by simp)
    rw [e1, e2] at h2
    simp at h2
theorem up_ext : ∀ {a b : List Int}, a.Pairwise (· < ·) → b.Pairwise (· < ·) → (∀ x, x ∈ a ↔ x ∈ b) → a = b
  | [], [], _, _, _ => rfl
  | [], y :: b, _, _, h => absurd ((h y).2 (by simp)) (by simp)
  | x :: a, [], _, _, h => absurd ((h x).1 (by simp)) (by simp)
  | x :: a, y :: b, h1, h2, h => by
    rw [List.pairwise_cons] at h1 h2
    have e : x = y := by
      rcases List.mem_cons.1 ((h x).1 (by simp)) with e | e
      · exact e
      · rcases List.mem_cons.1 ((h y).2 (by simp)) with e' | e'
        · exact e'.symm
        · have := h1.1 y e'
          have := h2.1 x e
          omega
    subst e
    rw [up_ext h1.2 h2.2 fun z => ?_]
    constructor
    · intro hz
      rcases List.mem_cons.1 ((h z).1 (by simp [hz])) with e | e
      · have := h1.1 z hz
        omega
      · exact e
    · intro hz
      rcases List.mem_cons.1 ((h z).2 (by simp [hz])) with e | e
      · have := h2.1 z hz
        omega
      · exact e
theorem foldl_min : ∀ (l : List Int) (a : Int), l.foldl min a ≤ a ∧ (∀ x ∈ l, l.foldl min a ≤ x) ∧ (l.foldl min a = a ∨ l.foldl min a ∈ l)
  | [], a => by simp
  | y :: l, a => by
    obtain ⟨h1, h2, h3⟩ := foldl_min l (min a y)
    rw [List.foldl_cons]
    refine ⟨by omega, fun x hx => ?_, ?_⟩
    · rcases List.mem_cons.1 hx with rfl | hx
      · omega
      · exact h2 x hx
    · rcases h3 with h3 | h3
      · rcases Int.le_total a y with h | h
        · left; omega
        · right
          have : l.foldl min (min a y) = y := by omega
          rw [this]; simp
      · right; simp [h3]
theorem minOf_head {l : List Int} (hne : l ≠ []) : Lib.minOf l ∈ l ∧ ∀ x ∈ l, Lib.minOf l ≤ x := by
  obtain ⟨a, r, rfl⟩ := List.exists_cons_of_ne_nil hne
  unfold Lib.minOf
  rw [List.headD_cons]
  obtain ⟨h1, h2, h3⟩ := foldl_min (a :: r) a
  refine ⟨?_, h2⟩
  rcases h3 with h3 | h3
  · rw [h3]; simp
  · exact h3
theorem Sy.ra (h : Sy arcs cls vs es) : (fun a b => (a, b) ∈ es.map (·.2)) = Ra arcs := by
  funext a b
  apply propext
  unfold Ra
  rw [List.mem_map]
  constructor
  · rintro ⟨⟨e, x, y⟩, hp, h1⟩
    cases h1
    exact ⟨e, (h.ae e a b).2 hp⟩
  · rintro ⟨e, he⟩
    exact ⟨_, (h.ae e a b).1 he, rfl⟩
theorem Sy.good (h : Sy arcs cls vs es) : good vs (es.map (·.2)) = true := good_iff.2 fun p hp => by
  obtain ⟨⟨e, x, y⟩, hq, rfl⟩ := List.mem_map.1 hp
  have := h.en e _ ((h.ae e x y).2 hq)
  simp only [List.contains_iff_mem]
  exact ⟨(h.cv x).1 this.1, (h.cv y).1 this.2⟩
theorem grp_comp {sl : List Int} {N : Int → Int → Prop} (hG : Grp sl N ls) {x : Int} (hx : x ∈ sl) : ∃ (i : Nat) (l : List Int), ls[i]? = some l ∧ x ∈ l ∧ compI ls x = (i : Int) := by
  obtain ⟨l, hl, hxl⟩ := (hG.al x).1 hx
  obtain ⟨i, hi, he⟩ := List.getElem_of_mem hl
  have hil : ls[i]? = some l := by rw [List.getElem?_eq_getElem hi, he]
  refine ⟨i, l, hil, hxl, compI_at hi (fun j hj hji => ?_) (by rw [he]; simpa using hxl)⟩
  rcases hc : (ls[j]).contains x with _ | _
  · rfl
  · have := hG.dj j i ls[j] l x (List.getElem?_eq_getElem hj) hil (by simpa using hc) hxl
    omega
theorem grp_none {sl : List Int} {N : Int → Int → Prop} (hG : Grp sl N ls) {x : Int} (hx : x ∉ sl) : compI ls x = -1 := compI_none fun i h => by
  rcases hc : (ls[i]).contains x with _ | _
  · rfl
  · exact absurd ((hG.al x).2 ⟨_, List.getElem_mem h, by simpa using hc⟩) hx
theorem Sy.ask_none (h : Sy arcs cls vs es) (hG : Grp vs (Ra arcs) ls) (hu : cls u = none) : compI ls u = -1 := grp_none hG fun hx => (h.cv u).2 hx hu
theorem Sy.ask_some (h : Sy arcs cls vs es) (hr : RowOk cls row) (hG : Grp vs (Ra arcs) ls) {b : Nat} (hu : cls u = some b) : ∃ (i : Nat) (l : List Int), ls[i]? = some l ∧ compI ls u = (i : Int) ∧ l = sorted (row b) ∧ (∃ r, l = Lib.minOf (row b) :: r) ∧ ∀ v, (compI ls u = compI ls v ↔ cls u = cls v) := by
  have hu' : u ∈ vs := (h.cv u).1 (by rw [hu]; simp)
  obtain ⟨i, l, hl, hul, hc⟩ := grp_comp hG hu'
  have hlm := List.mem_of_getElem? hl
  obtain ⟨h1, h2⟩ := hr u b hu
  have hmem : ∀ y, y ∈ l ↔ y ∈ row b := fun y => by
    rw [hG.cl l hlm u hul y, h1 y, ← h.cv]
    constructor
    · rintro ⟨a1, a2, a3⟩
      rw [← hu]
      exact ((h.pi u y (by rw [hu]; simp) a1).2 ⟨a2, a3⟩).symm
    · intro hy
      have hyn : cls y ≠ none := by rw [hy]; simp
      exact ⟨hyn, (h.pi u y (by rw [hu]; simp) hyn).1 (hu.trans hy.symm)⟩
  have hls : l = sorted (row b) := by
    exact up_ext (hG.up l hlm) (sorted_up h2) fun x => by
      rw [hmem]
      exact (List.mem_mergeSort).symm
  refine ⟨i, l, hl, hc, hls, ?_, fun v => ?_⟩
  · have hne : row b ≠ [] := fun e => by
      have := (h1 u).2 hu
      rw [e] at this
      cases this
    obtain ⟨m1, m2⟩ := minOf_head hne
    obtain ⟨a, r, hl2⟩ := List.exists_cons_of_ne_nil (fun e : l = [] => by rw [e] at hul; cases hul)
    have hup := hG.up l hlm
    rw [hl2, List.pairwise_cons] at hup
    have ha : a = Lib.minOf (row b) := by
      have m3 := m2 a ((hmem a).1 (by rw [hl2]; simp))
      have m4 := (hmem _).2 m1
      rw [hl2] at m4
      rcases List.mem_cons.1 m4 with e | e
      · exact e.symm
      · have := hup.1 _ e
        omega
    exact ⟨r, by rw [← ha]; exact hl2⟩
  · cases hv : cls v with
    | none =>
      rw [h.ask_none hG hv, hc, hu]
      simp
    | some b' =>
      obtain ⟨j, l', hl', hvl, hc'⟩ := grp_comp hG ((h.cv v).1 (by rw [hv]; simp))
      rw [hc, hc', hu]
      constructor
      · intro e
        have : i = j := by omega
        subst this
        rw [hl] at hl'
        cases hl'
        exact (((h1 v).1 ((hmem v).1 hvl)).symm.trans hv).symm ▸ rfl
      · intro e
        have : v ∈ l := (hmem v).2 ((h1 v).2 (hv.trans e.symm))
        have := hG.dj i j l l' v hl hl' this hvl
        omega
end
end Go.Proofs.Ythomnpgpbhpojaa.Cd

/- The index and the reference's graph in memory: each edit's two contracts. -/
namespace Go.Proofs.Ythomnpgpbhpojaa.Cd
open Go Go.RowKit Go.MapKept Go.Proofs.Ythomnpgpbhpojaa.Mem Go.Proofs.Ythomnpgpbhpojaa.Sl Go.Proofs.Ythomnpgpbhpojaa.Lw Go.Proofs.Ythomnpgpbhpojaa.Pt
set_option linter.unusedSimpArgs false
set_option linter.unusedVariables false

def CdE (w : World) (gc : Nat) (lk : Int) (arcs : Int → Option (Int × Int)) (cls : Int → Option Nat) (row : Nat → List Int) (cb : Nat → Prop) : Prop :=
  ∃ ga go gi gp gm ob ib val tg pb, CdS w gc ga go gi gp gm lk arcs ob ib cls row val tg pb cb
structure Gp where
  A : Option Addr
  n : Nat
  c : Nat
  E : Option Addr
  m : Nat
  ce : Nat
  gw : Int
def Gp.v (G : Gp) : Value := gV G.A G.n G.c (.slice G.E G.m G.ce) G.gw
structure GrO (W : World) (q : Nat → Prop) (G : Gp) (vs : List Int) (es : List (Int × Int × Int)) : Prop where
  rv : W.ownsRow 0 3 1 (.slice G.A G.n G.c) G.n (ints vs)
  nv : vs.length = G.n
  qv : ∀ k, (Value.slice G.A G.n G.c).ownBlock = some k → ¬ q k
  re : W.ownsRow 0 36 4 (.slice G.E G.m G.ce) G.m (edg es)
  ne : es.length = G.m
  qe : ∀ k, (Value.slice G.E G.m G.ce).ownBlock = some k → ¬ q k
section
variable {w w' W W' : World} {gc : Nat} {lk : Int} {arcs : Int → Option (Int × Int)} {cls : Int → Option Nat} {row : Nat → List Int} {cb q q' p : Nat → Prop} {vs : List Int} {es : List (Int × Int × Int)} {G : Gp}
theorem own_kp {B s n : Nat} {e : TypeId} {v : Value} {xs : List Value} (h : W.ownsRow B e s v n xs) (hk : Kpt p W W') (hp : ∀ k, v.ownBlock = some k → ¬ p k) : W'.ownsRow B e s v n xs := by
  refine ⟨h.1, ?_⟩
  rcases h.2 with h2 | ⟨g, cap, cur, rfl, hb, hh, r⟩
  · exact .inl h2
  · exact .inr ⟨g, cap, cur, rfl, hb, (hk.block g (lt_of_block hh) (hp g rfl)).trans hh, r⟩
theorem GrO.kept (h : GrO W q G vs es) (hk : Kpt p W W') (hp : ∀ k, p k → q k) : GrO W' q G vs es :=
  ⟨own_kp h.rv hk fun k hk' hx => h.qv k hk' (hp k hx), h.nv, h.qv, own_kp h.re hk fun k hk' hx => h.qe k hk' (hp k hx), h.ne, h.qe⟩
theorem GrO.below (h : GrO W q G vs es) (hb : Below W.heap.size W W') : GrO W' q G vs es := ⟨own_below h.rv hb, h.nv, h.qv, own_below h.re hb, h.ne, h.qe⟩
theorem GrO.mono (h : GrO W q G vs es) (hq : ∀ k, k < W.heap.size → q' k → q k) : GrO W q' G vs es :=
  ⟨h.rv, h.nv, fun k hk hx => h.qv k hk (hq k (h.rv.lt k hk).2 hx), h.re, h.ne, fun k hk hx => h.qe k hk (hq k (h.re.lt k hk).2 hx)⟩
theorem CdE.below (h : CdE w gc lk arcs cls row cb) (hb : Below w.heap.size w w') : CdE w' gc lk arcs cls row cb := by
  obtain ⟨ga, go, gi, gp, gm, ob, ib, val, tg, pb, h⟩ := h
  exact ⟨ga, go, gi, gp, gm, ob, ib, val, tg, pb, h.below hb⟩
theorem CdE.kept (h : CdE w gc lk arcs cls row cb) (hk : Kpt p w w') (hp : ∀ k, cb k → ¬ p k) : CdE w' gc lk arcs cls row cb := by
  obtain ⟨ga, go, gi, gp, gm, ob, ib, val, tg, pb, h⟩ := h
  exact ⟨ga, go, gi, gp, gm, ob, ib, val, tg, pb, h.kept hk hp⟩
theorem CdE.rowOk (h : CdE w gc lk arcs cls row cb) : RowOk cls row := by
  obtain ⟨ga, go, gi, gp, gm, ob, ib, val, tg, pb, h⟩ := h
  exact fun v b hv => ⟨h.p.r.mem v b hv, h.p.r.nd v b hv⟩
theorem CdE.lt (h : CdE w gc lk arcs cls row cb) : ∀ k, cb k → k < w.heap.size := by
  obtain ⟨ga, go, gi, gp, gm, ob, ib, val, tg, pb, h⟩ := h
  exact h.m.lt
theorem CdE.cc (h : CdE w gc lk arcs cls row cb) : cb gc := by
  obtain ⟨ga, go, gi, gp, gm, ob, ib, val, tg, pb, h⟩ := h
  exact h.m.cc

def RefP (w : World) (q : Nat → Prop) (G : Gp) (f : FuncId) (args : List Value) (res : Value) (vs' : List Int) (es' : List (Int × Int × Int)) : Prop :=
  ∀ W, Below w.heap.size w W → Calls Try.prog f (G.v :: args).toArray W fun e W' => ∃ G' : Gp, e = .returned (.tuple #[G'.v, res]) ∧ GrO W' (fun k => q k ∨ (w.heap.size ≤ k ∧ k < W.heap.size)) G' vs' es' ∧ Below W.heap.size W W'
def Bnd (kind e u v : Int) (vs : List Int) (es es' : List (Int × Int × Int)) (cls : Int → Option Nat) (row : Nat → List Int) (lk lk' : Int) : Prop :=
  (es'.length = es.length ∧ lk' = lk) ∨ (kind = 3 ∧ es'.length = es.length + 1 ∧ (sameV cls u v = true → lk' = 0) ∧ 0 ≤ lk' ∧ lk' ≤ 2 * (vs.length : Int)) ∨
  (kind = 4 ∧ es'.length + 1 = es.length ∧ ∃ (i : Nat) (u0 v0 : Int), es[i]? = some (e, u0, v0) ∧ atI es e = (i : Int) ∧ ((sameV cls u0 v0 = false ∨ u0 = v0) → lk' = 0) ∧ 0 ≤ lk' ∧ lk' ≤ 2 * ((mems cls row u0).length : Int))
def CondP (w : World) (gc : Nat) (cb : Nat → Prop) (f : FuncId) (args : List Value) (res : Value) (vs' : List Int) (es' : List (Int × Int × Int)) (B : Int → Prop) : Prop :=
  ∀ W, Below w.heap.size w W → Calls Try.prog f (.pointer (some ⟨gc, 0, none⟩) :: args).toArray W fun e W' => e = .returned res ∧ Kpt cb W W' ∧ ∃ lk' arcs' cls' row' cb', CdE W' gc lk' arcs' cls' row' cb' ∧ (∀ k, cb' k → ext cb W W' k) ∧ Sy arcs' cls' vs' es' ∧ B lk'
structure Pre (w : World) (gc : Nat) (lk : Int) (arcs : Int → Option (Int × Int)) (cls : Int → Option Nat) (row : Nat → List Int) (cb : Nat → Prop) (G : Gp) (vs : List Int) (es : List (Int × Int × Int)) : Prop where
  c : CdE w gc lk arcs cls row cb
  s : Sy arcs cls vs es
  g : GrO w cb G vs es
  lv : vs.length ≤ 400
  le : es.length ≤ 900
theorem Pre.rowle (h : Pre w gc lk arcs cls row cb G vs es) : ∀ v b, cls v = some b → (row b).length ≤ 400 := fun v b hv => by
  obtain ⟨h1, h2⟩ := h.c.rowOk v b hv
  exact Nat.le_trans (nodup_le h2 fun x hx => (h.s.cv x).1 (by rw [(h1 x).1 hx]; simp)) h.lv
theorem Pre.dead {v : Int} (h : Pre w gc lk arcs cls row cb G vs es) (hv : v ∉ vs) : cls v = none := by
  cases hx : cls v with
  | none => rfl
  | some b => exact absurd ((h.s.cv v).1 (by rw [hx]; simp)) hv
theorem Pre.gr (h : Pre w gc lk arcs cls row cb G vs es) {W : World} (hb : Below w.heap.size w W) : GrO W (fun k => cb k ∨ (w.heap.size ≤ k ∧ k < W.heap.size)) G vs es := by
  have h1 := h.g.mono (q' := fun k => cb k ∨ (w.heap.size ≤ k ∧ k < W.heap.size)) fun k hk hx => hx.elim id fun ⟨a, _⟩ => by omega
  exact h1.below hb
theorem own_new {B s n : Nat} {e : TypeId} {v : Value} {xs : List Value} (h : W'.ownsRow B e s v n xs) (hB : ∀ k, q k → k < B) : ∀ k, v.ownBlock = some k → ¬ q k := fun k hk hx => by
  have := (h.lt k hk).1
  have := hB k hx
  omega
theorem Pre.q_lt (h : Pre w gc lk arcs cls row cb G vs es) {W : World} (hb : Below w.heap.size w W) : ∀ k, (cb k ∨ (w.heap.size ≤ k ∧ k < W.heap.size)) → k < W.heap.size := fun k hk => by
  rcases hk with hk | hk
  · have := h.c.lt k hk
    have := hb.size
    omega
  · exact hk.2
theorem Pre.refl (h : Pre w gc lk arcs cls row cb G vs es) {W W' : World} (hb : Below w.heap.size w W) (hb2 : Below W.heap.size W W') {e : Ending} {res : Value} (he : e = .returned (.tuple #[G.v, res])) :
    ∃ G' : Gp, e = .returned (.tuple #[G'.v, res]) ∧ GrO W' (fun k => cb k ∨ (w.heap.size ≤ k ∧ k < W.heap.size)) G' vs es ∧ Below W.heap.size W W' := ⟨G, he, (h.gr hb).below hb2, hb2⟩
theorem Pre.stay (h : Pre w gc lk arcs cls row cb G vs es) {W W' : World} (hb : Below w.heap.size w W) (hb2 : Below W.heap.size W W') {kind e u v : Int} :
    Kpt cb W W' ∧ ∃ lk' arcs' cls' row' cb', CdE W' gc lk' arcs' cls' row' cb' ∧ (∀ k, cb' k → ext cb W W' k) ∧ Sy arcs' cls' vs es ∧ Bnd kind e u v vs es es cls row lk lk' :=
  ⟨Kpt.of_below hb2, lk, arcs, cls, row, cb, (h.c.below hb).below hb2, fun k hk => .inl hk, h.s, .inl ⟨rfl, rfl⟩⟩
theorem Pre.addv (h : Pre w gc lk arcs cls row cb G vs es) (kind e u v : Int) : ∃ b vs', RefP w cb G 23 [.int .i64 v] (.bool b) vs' es ∧ CondP w gc cb 12 [.int .i64 v] (.bool b) vs' es (Bnd kind e u v vs es es cls row lk) ∧ vs'.length ≤ vs.length + 1 := by
  by_cases hv : v ∈ vs
  · refine ⟨false, vs, fun W hb => ?_, fun W hb => ?_, by omega⟩
    · have hg := h.gr hb
      have := addvR_no (gw := G.gw) W G.A G.E G.c G.m G.ce vs v (RdI.of_own hg.rv).1 h.s.up (by have := h.lv; omega) hv
      rw [hg.nv] at this
      exact this.mono fun e' W' ⟨he, hb2⟩ => h.refl hb hb2 he
    · obtain ⟨ga, go, gi, gp, gm, ob, ib, val, tg, pb, hc⟩ := h.c
      exact (addv_no (hc.below hb) v ((h.s.cv v).2 hv)).mono fun e' W' ⟨he, hw⟩ => ⟨he, h.stay hb (hw ▸ Below.refl _ _)⟩
  · refine ⟨true, sorted (vs ++ [v]), fun W hb => ?_, fun W hb => ?_, by rw [sorted_length]; simp⟩
    · have hg := h.gr hb
      have := addvR_yes (gw := G.gw) W G.A G.E G.c G.m G.ce G.n vs v hg.rv hg.nv h.s.up (by have := h.lv; have := hg.nv; omega) hv
      refine this.mono fun e' W' ⟨A', c', he, ho, hb2⟩ => ⟨⟨A', G.n + 1, c', G.E, G.m, G.ce, G.gw⟩, he, ⟨own_mono ho (Nat.zero_le _), by rw [sorted_length, List.length_append, hg.nv]; rfl, own_new ho (h.q_lt hb), own_below hg.re hb2, hg.ne, hg.qe⟩, hb2⟩
    · obtain ⟨ga, go, gi, gp, gm, ob, ib, val, tg, pb, hc⟩ := h.c
      exact (addv_calls (hc.below hb) v (h.dead hv)).mono fun e' W' ⟨he, hk, ob', ib', cls', row', val', tg', pb', hn, hc'⟩ => ⟨he, hk, lk, arcs, cls', row', ext cb W W', ⟨_, _, _, _, _, _, _, _, _, _, hc'⟩, fun k hk => hk, h.s.addv hv hn, .inl ⟨rfl, rfl⟩⟩
theorem Pre.dropv (h : Pre w gc lk arcs cls row cb G vs es) (kind e u v : Int) : ∃ b vs', RefP w cb G 24 [.int .i64 v] (.bool b) vs' es ∧ CondP w gc cb 25 [.int .i64 v] (.bool b) vs' es (Bnd kind e u v vs es es cls row lk) ∧ vs'.length ≤ vs.length + 1 := by
  have hlv := h.lv
  have hle := h.le
  by_cases hv : v ∈ vs
  · have hvn := (h.s.cv v).2 hv
    by_cases ha : ∀ p ∈ es, p.2.1 ≠ v ∧ p.2.2 ≠ v
    · refine ⟨true, vs.filter fun x => decide (x ≠ v), fun W hb => ?_, fun W hb => ?_, Nat.le_succ_of_le (List.length_filter_le _ _)⟩
      · have hg := h.gr hb
        have := dropvR_yes (gw := G.gw) W G.A G.E G.c G.m G.ce G.n vs es v hg.rv h.s.up hg.nv (by have := hg.nv; omega) hv (RdG.of_own hg.re) hg.ne (by have := hg.ne; omega) ha
        refine this.mono fun e' W' ⟨A', c', he, ho, hb2⟩ => ⟨⟨A', G.n - 1, c', G.E, G.m, G.ce, G.gw⟩, he, ⟨own_mono ho (Nat.zero_le _), ?_, own_new ho (h.q_lt hb), own_below hg.re hb2, hg.ne, hg.qe⟩, hb2⟩
        have := ho.1
        rw [ints_length] at this
        show (vs.filter _).length = G.n - 1
        omega
      · obtain ⟨ga, go, gi, gp, gm, ob, ib, val, tg, pb, hc⟩ := h.c
        obtain ⟨b0, hb0⟩ := Option.ne_none_iff_exists'.1 hvn
        have ha2 : ∀ e p, arcs e = some p → p.1 ≠ v ∧ p.2 ≠ v := fun e p hp => ha _ ((h.s.ae e p.1 p.2).1 hp)
        exact (dropv_calls (hc.below hb) v hb0 (h.s.single h.c.rowOk ha hb0) ha2).mono fun e' W' ⟨he, hk, pb', hc'⟩ => ⟨he, hk, lk, arcs, _, row, ext cb W W', ⟨_, _, _, _, _, _, _, _, _, _, hc'⟩, fun k hk => hk, h.s.dropv ha, .inl ⟨rfl, rfl⟩⟩
    · have ha1 : ∃ p ∈ es, p.2.1 = v ∨ p.2.2 = v := by
        apply Classical.byContradiction
        intro hx
        exact ha fun p hp => ⟨fun e1 => hx ⟨p, hp, .inl e1⟩, fun e1 => hx ⟨p, hp, .inr e1⟩⟩
      refine ⟨false, vs, fun W hb => ?_, fun W hb => ?_, by omega⟩
      · have hg := h.gr hb
        have := dropvR_arcs (gw := G.gw) W G.A G.E G.c G.m G.ce G.n vs es v (RdI.of_own hg.rv).1 h.s.up hg.nv (by have := hg.nv; omega) hv (RdG.of_own hg.re) hg.ne (by have := hg.ne; omega) ha1
        exact this.mono fun e' W' ⟨he, hb2⟩ => h.refl hb hb2 he
      · obtain ⟨ga, go, gi, gp, gm, ob, ib, val, tg, pb, hc⟩ := h.c
        have ha2 : ∃ e p, arcs e = some p ∧ (p.1 = v ∨ p.2 = v) := by
          obtain ⟨⟨e, a, b⟩, hp, h1⟩ := ha1
          exact ⟨e, (a, b), (h.s.ae e a b).2 hp, h1⟩
        exact (dropv_has (hc.below hb) v hvn ha2).mono fun e' W' ⟨he, hw⟩ => ⟨he, h.stay hb (hw ▸ (Below.refl _ _).drew)⟩
  · refine ⟨false, vs, fun W hb => ?_, fun W hb => ?_, by omega⟩
    · have hg := h.gr hb
      have := dropvR_no (gw := G.gw) W G.A G.E G.c G.m G.ce G.n vs v (RdI.of_own hg.rv).1 h.s.up hg.nv (by have := hg.nv; omega) hv
      exact this.mono fun e' W' ⟨he, hb2⟩ => h.refl hb hb2 he
    · obtain ⟨ga, go, gi, gp, gm, ob, ib, val, tg, pb, hc⟩ := h.c
      exact (dropv_no (hc.below hb) v (h.dead hv)).mono fun e' W' ⟨he, hb2⟩ => ⟨he, h.stay hb hb2⟩
theorem cl_in {N : Int → Int → Prop} {x0 : Int} (h0 : x0 ∈ vs) (hN : ∀ a b, N a b → b ∈ vs) {x : Int} (h : Cl N x0 x) : x ∈ vs := by
  cases h with
  | base => exact h0
  | step _ he => exact hN _ _ he
theorem Pre.adda (h : Pre w gc lk arcs cls row cb G vs es) (e u v : Int) : ∃ code es', RefP w cb G 26 [.int .i64 e, .int .i64 u, .int .i64 v] (.int .i64 code) vs es' ∧ CondP w gc cb 13 [.int .i64 e, .int .i64 u, .int .i64 v] (.int .i64 code) vs es' (Bnd 3 e u v vs es es' cls row lk) ∧ es'.length ≤ es.length + 1 := by
  have hlv := h.lv
  have hle := h.le
  by_cases he : ∀ p ∈ es, p.1 ≠ e
  · have hen := h.s.noarc he
    by_cases hu : u ∈ vs
    · have hun := (h.s.cv u).2 hu
      by_cases hv : v ∈ vs
      · have hvn := (h.s.cv v).2 hv
        refine ⟨0, es ++ [(e, u, v)], fun W hb => ?_, fun W hb => ?_, by simp⟩
        · have hg := h.gr hb
          have := addaR_yes (gw := G.gw) W G.A G.E G.n G.c G.m G.ce vs es e u v (RdI.of_own hg.rv).1 h.s.up hg.nv (by have := hg.nv; omega) hg.re hg.ne (by have := hg.ne; omega) he hu hv
          exact this.mono fun e' W' ⟨A', c', he, ho, hb2⟩ => ⟨⟨G.A, G.n, G.c, A', G.m + 1, c', G.gw⟩, he, ⟨own_below hg.rv hb2, hg.nv, hg.qv, own_mono ho (Nat.zero_le _), by rw [List.length_append, hg.ne]; rfl, own_new ho (h.q_lt hb)⟩, hb2⟩
        · obtain ⟨ga, go, gi, gp, gm, ob, ib, val, tg, pb, hc⟩ := h.c
          refine (adda_calls (hc.below hb) vs (fun x hx => (h.s.cv x).1 hx) (by omega) e u v hen hun hvn ⟨es.map (·.1), by rw [List.length_map]; omega, h.s.keys⟩).mono fun e' W' ⟨he1, hk, lk', cls', row', val', pb', hc', hP⟩ => ⟨he1, hk, lk', _, cls', row', ext cb W W', ⟨_, _, _, _, _, _, _, _, _, _, hc'⟩, fun k hk => hk, h.s.adda he hu hv hP, .inr (.inl ⟨rfl, by simp, fun hs => ?_, ?_⟩)⟩
          · have hs2 : cls u = cls v := (of_decide_eq_true hs).2
            rcases hP with ⟨_, h0, _⟩ | ⟨h1, _⟩
            · exact h0
            · exact absurd hs2 h1
          · have hS := h.s.adda he hu hv hP
            have hin : ∀ a b, (∃ e', addA arcs e u v e' = some (a, b)) → a ∈ vs ∧ b ∈ vs := fun a b ⟨x, hx⟩ => by
              have := hS.en x _ hx
              exact ⟨(hS.cv a).1 this.1, (hS.cv b).1 this.2⟩
            rcases hP with ⟨_, h0, _⟩ | ⟨_, S, hS1, hS2, ⟨_, h0, _⟩ | ⟨_, T, hT1, hT2, h0, _⟩⟩
            · omega
            · have h3 := nodup_le hS1 fun x hx => cl_in hv (fun a b hab => (hin a b hab).2) ((hS2 x).1 hx)
              omega
            · have h3 := nodup_le hS1 fun x hx => cl_in hv (fun a b hab => (hin a b hab).2) ((hS2 x).1 hx)
              have h4 := nodup_le hT1 fun x hx => cl_in hu (fun a b hab => (hin b a hab.1).1) ((hT2 x).1 hx)
              omega
      · refine ⟨5, es, fun W hb => ?_, fun W hb => ?_, by omega⟩
        · have hg := h.gr hb
          have := addaR_nov (gw := G.gw) W G.A G.E G.n G.c G.m G.ce vs es e u v (RdI.of_own hg.rv).1 h.s.up hg.nv (by have := hg.nv; omega) (RdG.of_own hg.re) hg.ne (by have := hg.ne; omega) he hu hv
          exact this.mono fun e' W' ⟨he, hb2⟩ => h.refl hb hb2 he
        · obtain ⟨ga, go, gi, gp, gm, ob, ib, val, tg, pb, hc⟩ := h.c
          exact (adda_nov (hc.below hb) e u v hen hun (h.dead hv)).mono fun e' W' ⟨he, hb2⟩ => ⟨he, h.stay hb hb2⟩
    · refine ⟨5, es, fun W hb => ?_, fun W hb => ?_, by omega⟩
      · have hg := h.gr hb
        have := addaR_nou (gw := G.gw) W G.A G.E G.n G.c G.m G.ce vs es e u v (RdI.of_own hg.rv).1 h.s.up hg.nv (by have := hg.nv; omega) (RdG.of_own hg.re) hg.ne (by have := hg.ne; omega) he hu
        exact this.mono fun e' W' ⟨he, hb2⟩ => h.refl hb hb2 he
      · obtain ⟨ga, go, gi, gp, gm, ob, ib, val, tg, pb, hc⟩ := h.c
        exact (adda_nou (hc.below hb) e u v hen (h.dead hu)).mono fun e' W' ⟨he, hb2⟩ => ⟨he, h.stay hb hb2⟩
  · have he1 : ∃ p ∈ es, p.1 = e := by
      apply Classical.byContradiction
      intro hx
      exact he fun p hp e1 => hx ⟨p, hp, e1⟩
    refine ⟨2, es, fun W hb => ?_, fun W hb => ?_, by omega⟩
    · have hg := h.gr hb
      have := addaR_twice (gw := G.gw) W G.A G.E G.n G.c G.m G.ce es e u v (RdG.of_own hg.re) hg.ne (by have := hg.ne; omega) he1
      exact this.mono fun e' W' ⟨he, hb2⟩ => h.refl hb hb2 he
    · obtain ⟨ga, go, gi, gp, gm, ob, ib, val, tg, pb, hc⟩ := h.c
      obtain ⟨⟨_, a, b⟩, hp, rfl⟩ := he1
      exact (adda_twice (hc.below hb) _ u v (by rw [(h.s.ae _ a b).2 hp]; simp)).mono fun e' W' ⟨he, hb2⟩ => ⟨he, h.stay hb hb2⟩
theorem Pre.dela (h : Pre w gc lk arcs cls row cb G vs es) (e u v : Int) : ∃ code es', RefP w cb G 27 [.int .i64 e] (.int .i64 code) vs es' ∧ CondP w gc cb 14 [.int .i64 e] (.int .i64 code) vs es' (Bnd 4 e u v vs es es' cls row lk) ∧ es'.length ≤ es.length + 1 := by
  have hlv := h.lv
  have hle := h.le
  by_cases he : ∀ p ∈ es, p.1 ≠ e
  · have hen := h.s.noarc he
    refine ⟨6, es, fun W hb => ?_, fun W hb => ?_, by omega⟩
    · have hg := h.gr hb
      have := dropA_no (gw := G.gw) W G.A G.E G.n G.c G.m G.ce es e (RdG.of_own hg.re) hg.ne (by have := hg.ne; omega) he
      exact this.mono fun e' W' ⟨he, hb2⟩ => h.refl hb hb2 he
    · obtain ⟨ga, go, gi, gp, gm, ob, ib, val, tg, pb, hc⟩ := h.c
      exact (dela_no (hc.below hb) e hen).mono fun e' W' ⟨he, hb2⟩ => ⟨he, h.stay hb hb2⟩
  · obtain ⟨u0, v0, hp⟩ : ∃ u0 v0, (e, u0, v0) ∈ es := by
      apply Classical.byContradiction
      intro hx
      exact he fun ⟨a, b, c⟩ hp e1 => hx ⟨b, c, by
        have e1 : a = e := e1
        rw [← e1]; exact hp⟩
    obtain ⟨i, hi⟩ := List.mem_iff_getElem?.1 hp
    have hil := (List.getElem?_eq_some_iff.1 hi).1
    have hfl : (es.filter fun p => decide (p.1 ≠ e)).length + 1 = es.length := by
      rw [filter_e h.s.un hi rfl, List.length_append, List.length_take, List.length_drop]
      omega
    refine ⟨0, es.filter fun p => decide (p.1 ≠ e), fun W hb => ?_, fun W hb => ?_, by omega⟩
    · have hg := h.gr hb
      have := dropA_yes (gw := G.gw) W G.A G.E G.n G.c G.m G.ce i es e u0 v0 hg.re hg.ne (by have := hg.ne; omega) h.s.un hi
      refine this.mono fun e' W' ⟨A', c', he, ho, hb2⟩ => ⟨⟨G.A, G.n, G.c, A', G.m - 1, c', wrap64 (G.gw + 1)⟩, he, ⟨own_below hg.rv hb2, hg.nv, hg.qv, own_mono ho (Nat.zero_le _), ?_, own_new ho (h.q_lt hb)⟩, hb2⟩
      have := hg.ne
      show (es.filter _).length = G.m - 1
      omega
    · obtain ⟨ga, go, gi, gp, gm, ob, ib, val, tg, pb, hc⟩ := h.c
      have hae := (h.s.ae e u0 v0).2 hp
      have hun := (h.s.en e _ hae).1
      refine (dela_calls (hc.below hb) vs (fun x hx => (h.s.cv x).1 hx) (by omega) e u0 v0 hae).mono fun e' W' ⟨he1, hk, lk', cls', row', val', pb', hc', hP⟩ => ⟨he1, hk, lk', _, cls', row', ext cb W W', ⟨_, _, _, _, _, _, _, _, _, _, hc'⟩, fun k hk => hk, h.s.dela hp hP, .inr (.inr ⟨rfl, hfl, i, u0, v0, hi, atI_yes hi rfl (fun j q hj hq e1 => by
        have := h.s.un j i q _ hq hi e1
        omega), ?_⟩)⟩
      rcases hP with ⟨_, h0, _⟩ | ⟨h1, h2, S, hS1, hS2, h0, _⟩
      · exact ⟨fun _ => h0, by omega, by omega⟩
      · obtain ⟨b0, hb0⟩ := Option.ne_none_iff_exists'.1 hun
        refine ⟨fun hx => ?_, by omega, ?_⟩
        · rcases hx with hx | hx
          · unfold sameV at hx
            rw [decide_eq_false_iff_not] at hx
            exact absurd ⟨hun, h2⟩ hx
          · exact absurd hx h1
        · obtain ⟨m1, m2⟩ := (show RowOk cls row from fun v b hv => ⟨hc.p.r.mem v b hv, hc.p.r.nd v b hv⟩) u0 b0 hb0
          have h3 := nodup_le hS1 (m := row b0) fun x hx => (m1 x).2 (((hS2 x).1 hx).trans hb0)
          have h4 : (mems cls row u0).length = (row b0).length := by unfold mems; rw [hb0]; exact sorted_length _
          omega
end
end Go.Proofs.Ythomnpgpbhpojaa.Cd
