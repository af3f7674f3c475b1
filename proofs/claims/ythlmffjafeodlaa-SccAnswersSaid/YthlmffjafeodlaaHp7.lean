/- heap.Heap[int, int] as a set of numbers, each of its own rank: Push, Pop. -/
import Derived.Test.YthlmffjafeodlaaHp6
import Derived.Test.YthlmffjafeodlaaHeap
import Derived.Test.YthlmffjafeodlaaTj
namespace Go.Proofs.Ythlmffjafeodlaa.Hp
open Go Go.RowKit Go.Proofs.Ythlmffjafeodlaa.Mem Go.Proofs.Ythlmffjafeodlaa.Hq Go.Proofs.Ythlmffjafeodlaa.Tj Go.Proofs.YthlmffjafeodlaaW.PrintWords Go.Proofs.YthlmffjafeodlaaW.PrintLast

theorem fits_uniq {f : Int → Option Int} {its : List Itm} (h : Fits f its) {n m : Nat} {x y : Itm} (h1 : its[n]? = some x) (h2 : its[m]? = some y) (h3 : x.1 = y.1) : n = m := by
  have e1 := (h x.1 n).2 ⟨n, rfl, x, h1, rfl⟩
  have e2 := (h x.1 m).2 ⟨m, rfl, y, h2, h3.symm⟩
  rw [e1] at e2
  have := Option.some.inj e2
  omega

theorem pop_ok {f : Int → Option Int} {its : List Itm} {a : Itm} (h : IsHeap its) (hf : Fits f its) (ha : its[0]? = some a) (hl : its.length < 1000000) :
    ∃ R, dropS (its.length + 1) its = some R ∧ IsHeap R ∧ R.length + 1 = its.length ∧ ∀ x, x ∈ R ↔ (x ∈ its ∧ x.1 ≠ a.1) := by
  have hi : 0 < its.length := (List.getElem?_eq_some_iff.1 ha).1
  obtain ⟨m, hm⟩ : ∃ m, its.length = m + 1 := ⟨its.length - 1, by omega⟩
  obtain ⟨b, hb⟩ : ∃ b, its[m]? = some b := ⟨_, List.getElem?_eq_getElem (by omega)⟩
  have hsw := swap_last hm ha
  have htl := takeS_length hm
  have hfs := hf.swap ha hb
  rw [hsw] at hfs
  have hmem : ∀ x, x ∈ takeS its ↔ (x ∈ its ∧ x.1 ≠ a.1) := by
    intro x
    rw [← mem_swapL its hi (show m < its.length by omega), hsw, List.mem_append, List.mem_singleton]
    constructor
    · intro hx
      refine ⟨Or.inl hx, fun he => ?_⟩
      obtain ⟨n, hn⟩ := List.mem_iff_getElem?.1 hx
      have hnl := (List.getElem?_eq_some_iff.1 hn).1
      have := fits_uniq hfs (n := n) (m := m) (x := x) (y := a) (by rw [List.getElem?_append_left hnl]; exact hn) (by rw [List.getElem?_append_right (by omega), htl, Nat.sub_self]; rfl) he
      omega
    · rintro ⟨hx | rfl, hne⟩
      · exact hx
      · exact absurd rfl hne
  unfold dropS
  by_cases h1 : 1 < its.length
  · rw [if_pos h1]
    have hg : ∀ j, j < m → (takeS its).getD j z = if j = 0 then its.getD m z else its.getD j z := fun j hj => by
      have e := swapL_getD its hi (show m < its.length by omega) j
      rw [hsw, List.getD_eq_getElem?_getD, List.getElem?_append_left (by omega), ← List.getD_eq_getElem?_getD, if_neg (show ¬ j = m by omega)] at e
      exact e
    obtain ⟨R, r1, r2, r3, r4⟩ := down_ok (its.length + 1) (takeS its) 0 (by omega) (by omega) (by omega) (by
      intro j hj hjl hne
      rw [hg _ (by omega), hg _ (by omega), if_neg hne, if_neg (by omega)]
      exact h j hj (by omega)) (by
      intro j hj hjl he h0
      omega)
    exact ⟨R, r1, r2, by omega, fun x => (r4 x).trans (hmem x)⟩
  · rw [if_neg h1]
    refine ⟨takeS its, rfl, ?_, by omega, hmem⟩
    intro j hj hjl
    omega

/-- The heap holds just the numbers rs, each of its own rank. -/
def HQ (w : World) (base hb mb : Nat) (rs : List Nat) (came : Nat) : Prop :=
  ∃ iv its, Hp w base hb mb iv its (came : Int) ∧ IsHeap its ∧ its.length ≤ came ∧ (∀ x ∈ its, x.2.1 = x.1) ∧ ∀ k : Int, (∃ x ∈ its, x.1 = k) ↔ ∃ c ∈ rs, k = ((c : Nat) : Int)

/-- What a step of the heap keeps. -/
def KeepQ (B : Nat) (w w' : World) : Prop :=
  Below B w w' ∧ ∀ (base : Nat) (v : Value) (n : Nat) (xs : List Value), w.ownsRow base 3 1 v n xs → w'.ownsRow base 3 1 v n xs
theorem KeepQ.refl (B : Nat) (w : World) : KeepQ B w w := ⟨Below.refl _ _, fun _ _ _ _ h => h⟩
theorem KeepQ.trans {B : Nat} {a b c : World} (h : KeepQ B a b) (h' : KeepQ B b c) : KeepQ B a c := ⟨h.1.trans h'.1, fun b v n xs ho => h'.2 b v n xs (h.2 b v n xs ho)⟩

theorem keepQ_of {B base hb mb : Nat} {iv : Value} {its : List Itm} {came : Int} {w w' : World} (h : Hp w base hb mb iv its came) (hk : HK hb mb iv w w') (h1 : B ≤ hb) (h2 : B ≤ mb) : KeepQ B w w' := by
  have h3 := h.lb
  refine ⟨⟨hk.os, hk.tape, hk.output, hk.size, fun k hkk => hk.block k (by have := h.hat.lt; omega) (by omega) (by omega) (fun he => by have := (h.own.lt k he.symm).1; omega)⟩, ?_⟩
  intro b v n xs ho
  obtain ⟨f, hmp, _⟩ := h.mp
  refine own_move ho (fun k hkk => ?_)
  refine hk.block k (ho.lt k hkk).2 ?_ ?_ ?_
  · rintro rfl
    exact own_off ho h.hat (by decide) hkk.symm
  · rintro rfl
    exact hmp.own ho hkk.symm
  · intro he
    rcases own_apart ho h.own (by decide) with e | e
    · rw [hkk] at e; cases e
    · exact e (hkk.trans he)

theorem HQ.low {w : World} {base hb mb came : Nat} {rs : List Nat} (h : HQ w base hb mb rs came) : hb < base ∧ mb < base := by
  obtain ⟨iv, its, hp, _⟩ := h
  exact ⟨hp.lb, hp.lm⟩
theorem HQ.drewN {w : World} {base hb mb came : Nat} {rs : List Nat} (h : HQ w base hb mb rs came) (n : Nat) : HQ (w.drewN n) base hb mb rs came := by
  obtain ⟨iv, its, hp, r⟩ := h
  exact ⟨iv, its, hp.drewN n, r⟩
/-- Behind a step that keeps all blocks but one that is not the heap's. -/
theorem HQ.move {w w' : World} {base hb mb came : Nat} {rs : List Nat} (h : HQ w base hb mb rs came) (hh : w'.heap[hb]? = w.heap[hb]?) (hm : w'.heap[mb]? = w.heap[mb]?) (ho : ∀ v n xs, w.ownsRow base 82 3 v n xs → w'.ownsRow base 82 3 v n xs) : HQ w' base hb mb rs came := by
  obtain ⟨iv, its, hp, r⟩ := h
  obtain ⟨f, h1, h2⟩ := hp.mp
  exact ⟨iv, its, ⟨hh.trans hp.hat, ho _ _ _ hp.own, ⟨f, h1.move hm, h2⟩, hp.lb, hp.lm⟩, r⟩
theorem HQ.setB {w : World} {base hb mb came B : Nat} {rs : List Nat} (h : HQ w base hb mb rs came) (h1 : B ≤ hb) (h2 : B ≤ mb) {g i : Nat} (hg : g < B) (u : Value) : HQ (w.setCell ⟨g, i, none⟩ u) base hb mb rs came :=
  h.move (heap_setCell_other w ⟨g, i, none⟩ hb u (by show hb ≠ g; omega)) (heap_setCell_other w ⟨g, i, none⟩ mb u (by show mb ≠ g; omega)) (fun v n xs ho => ho.setB (by have := h.low; omega))
theorem HQ.al {w : World} {base hb mb came : Nat} {rs : List Nat} (h : HQ w base hb mb rs came) (o : Obj) : HQ (w.alloc o) base hb mb rs came := by
  have hh := h
  obtain ⟨iv, its, hp, _⟩ := hh
  obtain ⟨f, h1, _⟩ := hp.mp
  exact h.move (Below.heap_alloc w o hb hp.hat.lt) (Below.heap_alloc w o mb h1.lt) (fun v n xs ho => ho.alloc o)
/-- .. behind an append to a row of numbers. -/
theorem HQ.grown {w w' : World} {base hb mb came b n : Nat} {rs : List Nat} {v : Value} {xs : List Value} (h : HQ w base hb mb rs came) (ho : w.ownsRow b 3 1 v n xs) (hg : w.grownBy w' v.ownBlock) : HQ w' base hb mb rs came := by
  have hh := h
  obtain ⟨iv, its, hp, _⟩ := hh
  obtain ⟨f, h1, _⟩ := hp.mp
  refine h.move (hg.block hb hp.hat.lt (own_off ho hp.hat (by decide))) (hg.block mb h1.lt (h1.own ho)) (fun v' n' xs' ho' => ho'.kept hg (own_apart ho' ho (by decide)))

theorem newQ_calls (w : World) : Calls Try.prog 23 #[.func (.func 24) #[] #[]] w fun e w' =>
    ∃ hb mb, e = .returned (.pointer (some ⟨hb, 0, none⟩)) ∧ HQ w' w'.heap.size hb mb [] 0 ∧ Below w.heap.size w w' ∧ w.heap.size ≤ hb ∧ w.heap.size ≤ mb := by
  refine (new_calls w).mono ?_
  rintro e w' ⟨hb, mb, rfl, h1, h2, h3, h4⟩
  exact ⟨hb, mb, rfl, ⟨_, [], h1, fun j _ hj => by simp at hj, by simp, by simp, by simp⟩, h2, h3, h4⟩

theorem pushQ_calls (w : World) (base hb mb B c came : Nat) (rs : List Nat) (h : HQ w base hb mb rs came) (hB : B ≤ hb ∧ B ≤ mb) (hc : c ∉ rs) (hcm : came < 1000000) (hbw : base ≤ w.heap.size) :
    Calls Try.prog 25 #[.pointer (some ⟨hb, 0, none⟩), .int .i64 (c : Int), .int .i64 (c : Int)] w fun e w' => e = .returned (.bool true) ∧ HQ w' base hb mb (insS c rs) (came + 1) ∧ KeepQ B w w' := by
  obtain ⟨iv, its, hp, hh, hl, hr, hm⟩ := h
  obtain ⟨R, r1, r2, r3, r4⟩ := push_ok hh ((c : Int), (c : Int), (came : Int) + 1)
  refine (push_calls w base hb mb (its.length + 1) iv its R came c c hp (by omega) (by omega) (by omega) ?_ hbw r1).mono ?_
  · intro x hx he
    obtain ⟨c', hc', he'⟩ := (hm c).1 ⟨x, hx, he⟩
    have : c = c' := by omega
    exact hc (this ▸ hc')
  · rintro e w' ⟨rfl, iv', h1, h2, _⟩
    refine ⟨rfl, ⟨iv', R, h1, r2, by omega, ?_, ?_⟩, keepQ_of hp h2 hB.1 hB.2⟩
    · intro x hx
      rcases (r4 x).1 hx with h | rfl
      · exact hr x h
      · rfl
    · intro k
      constructor
      · rintro ⟨x, hx, rfl⟩
        rcases (r4 x).1 hx with h | rfl
        · obtain ⟨c', h3, h4⟩ := (hm x.1).1 ⟨x, h, rfl⟩
          exact ⟨c', (mem_insS c rs c').2 (.inr h3), h4⟩
        · exact ⟨c, (mem_insS c rs c).2 (.inl rfl), rfl⟩
      · rintro ⟨c', h3, rfl⟩
        rcases (mem_insS c rs c').1 h3 with rfl | h3
        · exact ⟨_, (r4 _).2 (.inr rfl), rfl⟩
        · obtain ⟨x, hx, he⟩ := (hm c').2 ⟨c', h3, rfl⟩
          exact ⟨x, (r4 x).2 (.inl hx), he⟩

theorem popQ_none (w : World) (base hb mb came : Nat) (h : HQ w base hb mb [] came) :
    Calls Try.prog 26 #[.pointer (some ⟨hb, 0, none⟩)] w fun e w' => e = .returned (.tuple #[.int .i64 0, .int .i64 0, .bool false]) ∧ w' = w := by
  obtain ⟨iv, its, hp, hh, hl, hr, hm⟩ := h
  cases its with
  | nil => exact pop_none w base hb mb iv came hp
  | cons x r =>
    obtain ⟨c, hc, _⟩ := (hm x.1).1 ⟨x, by simp, rfl⟩
    simp at hc

theorem popQ_some (w : World) (base hb mb B c came : Nat) (rs : List Nat) (h : HQ w base hb mb (c :: rs) came) (hB : B ≤ hb ∧ B ≤ mb) (hs : (c :: rs).Pairwise (· < ·)) (hcm : came < 1000000) :
    Calls Try.prog 26 #[.pointer (some ⟨hb, 0, none⟩)] w fun e w' => e = .returned (.tuple #[.int .i64 (c : Int), .int .i64 (c : Int), .bool true]) ∧ HQ w' base hb mb rs came ∧ KeepQ B w w' := by
  obtain ⟨iv, its, hp, hh, hl, hr, hm⟩ := h
  obtain ⟨y, hy, hyc⟩ := (hm c).2 ⟨c, by simp, rfl⟩
  obtain ⟨a, ha⟩ : ∃ a, its[0]? = some a := by
    cases its with
    | nil => simp at hy
    | cons x r => exact ⟨x, rfl⟩
  have ham : a ∈ its := List.mem_of_getElem? ha
  have hac : a.1 = (c : Int) := by
    obtain ⟨c', hc', he'⟩ := (hm a.1).1 ⟨a, ham, rfl⟩
    obtain ⟨n, hn⟩ := List.mem_iff_getElem?.1 hy
    have hle := head_least hh n (List.getElem?_eq_some_iff.1 hn).1
    rw [getD_of ha, getD_of hn, leI_iff, hr a ham, hr y hy, hyc, he'] at hle
    rcases List.mem_cons.1 hc' with rfl | hc'
    · exact he'
    · have := (List.pairwise_cons.1 hs).1 c' hc'
      omega
  obtain ⟨f, hmp, hfit⟩ := hp.mp
  obtain ⟨R, r1, r2, r3, r4⟩ := pop_ok hh hfit ha (by omega)
  refine (pop_some w base hb mb (its.length + 1) iv its R came a hp ha (by omega) r1).mono ?_
  rintro e w' ⟨rfl, iv', h1, h2, _⟩
  rw [hr a ham, hac]
  refine ⟨rfl, ⟨iv', R, h1, r2, by omega, fun x hx => hr x ((r4 x).1 hx).1, ?_⟩, keepQ_of hp h2 hB.1 hB.2⟩
  intro k
  constructor
  · rintro ⟨x, hx, rfl⟩
    obtain ⟨hx1, hx2⟩ := (r4 x).1 hx
    obtain ⟨c', h3, h4⟩ := (hm x.1).1 ⟨x, hx1, rfl⟩
    rcases List.mem_cons.1 h3 with rfl | h3
    · rw [hac] at hx2; exact absurd h4 hx2
    · exact ⟨c', h3, h4⟩
  · rintro ⟨c', h3, rfl⟩
    obtain ⟨x, hx, he⟩ := (hm c').2 ⟨c', List.mem_cons.2 (.inr h3), rfl⟩
    refine ⟨x, (r4 x).2 ⟨hx, ?_⟩, he⟩
    rw [he, hac]
    have := (List.pairwise_cons.1 hs).1 c' h3
    omega

end Go.Proofs.Ythlmffjafeodlaa.Hp
