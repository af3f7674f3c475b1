/- Plain: the parts are the classes of mutual reach, kept by each edit. -/
import Derived.Test.YthomnpgpbhpojaaGd27
import Derived.Test.YthomnpgpbhpojaaGd24
namespace Go.Proofs.Ythomnpgpbhpojaa.Cd
open Go.Proofs.Ythomnpgpbhpojaa.Sl Go.Proofs.Ythomnpgpbhpojaa.Lw Go.Proofs.Ythomnpgpbhpojaa.Pt
set_option linter.unusedVariables false

section
variable {arcs arcs' : Int → Option (Int × Int)} {cls cls' : Int → Option Nat} {R R' : Int → Int → Prop} {u v e lk : Int}
def Ra (arcs : Int → Option (Int × Int)) (a b : Int) : Prop := ∃ e, arcs e = some (a, b)
theorem Cl.trans {a b c : Int} (h : Cl R a b) (k : Cl R b c) : Cl R a c := by
  induction k with
  | base => exact h
  | step _ he ih => exact .step ih he
theorem Cl.mono {a b : Int} (h : Cl R a b) (hR : ∀ x y, R x y → R' x y) : Cl R' a b := by
  induction h with
  | base => exact .base
  | step _ he ih => exact .step ih (hR _ _ he)
theorem Cl.head {a b c : Int} (h : R a b) (k : Cl R b c) : Cl R a c := (Cl.step .base h).trans k
def Mut (R : Int → Int → Prop) (x y : Int) : Prop := Cl R x y ∧ Cl R y x
def PI (R : Int → Int → Prop) (cls : Int → Option Nat) : Prop := ∀ x y, cls x ≠ none → cls y ≠ none → (cls x = cls y ↔ Mut R x y)
def More (R R' : Int → Int → Prop) (u v : Int) : Prop := ∀ a b, R' a b ↔ R a b ∨ (a = u ∧ b = v)
theorem More.cl (h : More R R' u v) {x y : Int} : Cl R' x y ↔ Cl R x y ∨ (Cl R x u ∧ Cl R v y) := by
  constructor
  · intro hc
    induction hc with
    | base => exact .inl .base
    | step _ he ih =>
      rcases (h _ _).1 he with he | ⟨rfl, rfl⟩
      · rcases ih with ih | ⟨i1, i2⟩
        · exact .inl (.step ih he)
        · exact .inr ⟨i1, .step i2 he⟩
      · rcases ih with ih | ⟨i1, i2⟩
        · exact .inr ⟨ih, .base⟩
        · exact .inr ⟨i1, .base⟩
  · have hm : ∀ a b, R a b → R' a b := fun a b hh => (h a b).2 (.inl hh)
    rintro (hc | ⟨h1, h2⟩)
    · exact hc.mono hm
    · exact (Cl.step (h1.mono hm) ((h u v).2 (.inr ⟨rfl, rfl⟩))).trans (h2.mono hm)
theorem More.up (h : More R R' u v) {x y : Int} (hc : Cl R x y) : Cl R' x y := h.cl.2 (.inl hc)
theorem More.same (h : More R R' u v) (h1 : Cl R u v) {x y : Int} : Cl R' x y ↔ Cl R x y :=
  ⟨fun hc => (h.cl.1 hc).elim id fun ⟨a, b⟩ => (a.trans h1).trans b, h.up⟩
theorem More.mut_no (h : More R R' u v) (h1 : ¬ Cl R v u) {x y : Int} : Mut R' x y ↔ Mut R x y := by
  constructor
  · rintro ⟨a, b⟩
    rcases h.cl.1 a with a | ⟨a1, a2⟩ <;> rcases h.cl.1 b with b | ⟨b1, b2⟩
    · exact ⟨a, b⟩
    · exact absurd ((b2.trans a).trans b1) h1
    · exact absurd ((a2.trans b).trans a1) h1
    · exact absurd (a2.trans b1) h1
  · rintro ⟨a, b⟩
    exact ⟨h.up a, h.up b⟩
theorem more_add (he : arcs e = none) : More (Ra arcs) (Ra (addA arcs e u v)) u v := fun a b => by
  unfold Ra addA
  constructor
  · rintro ⟨x, hx⟩
    by_cases h : x = e
    · rw [if_pos h] at hx
      cases hx
      exact .inr ⟨rfl, rfl⟩
    · rw [if_neg h] at hx
      exact .inl ⟨x, hx⟩
  · rintro (⟨x, hx⟩ | ⟨rfl, rfl⟩)
    · refine ⟨x, ?_⟩
      rw [if_neg fun h => by rw [h, he] at hx; cases hx]
      exact hx
    · exact ⟨e, if_pos rfl⟩
theorem del_add (he : arcs e = some (u, v)) : addA (delA arcs e) e u v = arcs := by
  funext x
  unfold addA delA
  by_cases h : x = e
  · rw [if_pos h, h, he]
  · rw [if_neg h, if_neg h]
theorem more_del (he : arcs e = some (u, v)) : More (Ra (delA arcs e)) (Ra arcs) u v := by
  have := more_add (arcs := delA arcs e) (e := e) (u := u) (v := v) (if_pos rfl)
  rwa [del_add he] at this
theorem PI.newv (h : PI (Ra arcs) cls) (hn : NewV cls cls' v) (hv : cls v = none) (en : ∀ e p, arcs e = some p → cls p.1 ≠ none ∧ cls p.2 ≠ none) : PI (Ra arcs) cls' := by
  obtain ⟨h1, b, h2, h3⟩ := hn
  have hout : ∀ y, Cl (Ra arcs) v y → y = v := fun y hy => by
    induction hy with
    | base => rfl
    | step _ he ih =>
      obtain ⟨x, hx⟩ := he
      subst ih
      exact absurd hv (en x _ hx).1
  have hin : ∀ y, Cl (Ra arcs) y v → y = v := fun y hy => by
    generalize hz : v = z at hy
    cases hy with
    | base => rfl
    | step _ he =>
      obtain ⟨x, hx⟩ := he
      subst hz
      exact absurd hv (en x _ hx).2
  intro x y hx hy
  by_cases ex : x = v <;> by_cases ey : y = v
  · subst ex ey
    exact ⟨fun _ => ⟨.base, .base⟩, fun _ => rfl⟩
  · subst ex
    constructor
    · intro e
      rw [h2, h1 y ey] at e
      exact absurd e.symm (h3 y ey)
    · intro e
      exact absurd (hout y e.1) ey
  · subst ey
    constructor
    · intro e
      rw [h2, h1 x ex] at e
      exact absurd e (h3 x ex)
    · intro e
      exact absurd (hout x e.2) ex
  · rw [h1 x ex, h1 y ey]
    rw [h1 x ex] at hx
    rw [h1 y ey] at hy
    exact h x y hx hy
theorem PI.drop (h : PI R cls) : PI R (fun x => if x = v then none else cls x) := fun x y hx hy => by
  by_cases ex : x = v
  · exact absurd (if_pos ex) hx
  · by_cases ey : y = v
    · exact absurd (if_pos ey) hy
    · simp only [if_neg ex, if_neg ey] at hx hy ⊢
      exact h x y hx hy
theorem PI.congr (h : PI R cls) (hR : ∀ x y, Mut R' x y ↔ Mut R x y) : PI R' cls := fun x y hx hy => (h x y hx hy).trans (hR x y).symm
theorem PI.add (h : PI (Ra arcs) cls) (he : arcs e = none) (hu : cls u ≠ none) (hv : cls v ≠ none) (hP : AddP (addA arcs e u v) cls cls' u v lk) : PI (Ra (addA arcs e u v)) cls' := by
  have hM := more_add (u := u) (v := v) he
  rcases hP with ⟨h1, _, rfl⟩ | ⟨h1, S, _, hS, ⟨h2, _, rfl⟩ | ⟨h2, T, _, hT, _, hJ⟩⟩
  · have := (h u v hu hv).1 h1
    exact h.congr fun x y => by unfold Mut; rw [hM.same this.1, hM.same this.1]
  · have hn : ¬ Cl (Ra arcs) v u := fun e => h2 ((hS u).2 (hM.up e))
    exact h.congr fun x y => hM.mut_no hn
  · have huv : Ra (addA arcs e u v) u v := (hM u v).2 (.inr ⟨rfl, rfl⟩)
    have hvu : Cl (Ra (addA arcs e u v)) v u := (hS u).1 h2
    have hTi : ∀ x, x ∈ T ↔ Cl (Ra (addA arcs e u v)) v x ∧ Cl (Ra (addA arcs e u v)) x u := fun x => by
      rw [hT x]
      constructor
      · intro hc
        induction hc with
        | base => exact ⟨hvu, .base⟩
        | step _ he ih => exact ⟨(hS _).1 he.2, .head he.1 ih.2⟩
      · rintro ⟨h1, h2⟩
        have key : ∀ y, Cl (Ra (addA arcs e u v)) x y → Cl (fun x y => (∃ e', addA arcs e u v e' = some (y, x)) ∧ y ∈ S) u y → Cl (fun x y => (∃ e', addA arcs e u v e' = some (y, x)) ∧ y ∈ S) u x := fun y hy => by
          induction hy with
          | base => exact id
          | step hc he ih => exact fun hk => ih (.step hk ⟨he, (hS _).2 (h1.trans hc)⟩)
        exact key u h2 .base
    have hcT : ∀ x, cls x ≠ none → ((∃ w ∈ T, cls x = cls w) ↔ x ∈ T) := fun x hx => by
      constructor
      · rintro ⟨w, hw, e1⟩
        have hm := (h x w hx (e1 ▸ hx)).1 e1
        have := (hTi w).1 hw
        exact (hTi x).2 ⟨this.1.trans (hM.up hm.2), (hM.up hm.1).trans this.2⟩
      · intro hx
        exact ⟨x, hx, rfl⟩
    intro x y hx hy
    have hx' : cls x ≠ none := fun e => hx ((hJ.1 x).2 e)
    have hy' : cls y ≠ none := fun e => hy ((hJ.1 y).2 e)
    rw [hJ.2 x y hx' hy', hcT x hx', hcT y hy', h x y hx' hy', hTi x, hTi y]
    constructor
    · rintro (⟨a, b⟩ | ⟨⟨a, b⟩, c, d⟩)
      · exact ⟨hM.up a, hM.up b⟩
      · exact ⟨(Cl.step b huv).trans c, (Cl.step d huv).trans a⟩
    · rintro ⟨a, b⟩
      rcases hM.cl.1 a with a1 | ⟨a1, a2⟩
      · rcases hM.cl.1 b with b1 | ⟨b1, b2⟩
        · exact .inl ⟨a1, b1⟩
        · have b1 := hM.up b1
          have b2 := hM.up b2
          exact .inr ⟨⟨b2, a.trans b1⟩, b2.trans a, b1⟩
      · have a1 := hM.up a1
        have a2 := hM.up a2
        exact .inr ⟨⟨a2.trans b, a1⟩, a2, b.trans a1⟩
theorem PI.del (h : PI (Ra arcs) cls) (he : arcs e = some (u, v)) (en : ∀ e p, arcs e = some p → cls p.1 ≠ none ∧ cls p.2 ≠ none) (hP : DropP (delA arcs e) cls cls' u v lk) : PI (Ra (delA arcs e)) cls' := by
  have hM := more_del he
  have hu := (en e _ he).1
  have hv := (en e _ he).2
  have huv : Cl (Ra arcs) u v := .step .base ⟨e, he⟩
  rcases hP with ⟨h1, _, rfl⟩ | ⟨h1, h2, vs, _, hvs, _, hP⟩
  · rcases h1 with rfl | h1
    · exact h.congr fun x y => by unfold Mut; rw [hM.same .base, hM.same .base]
    · have hn : ¬ Cl (Ra (delA arcs e)) v u := fun hc => h1 ((h u v hu hv).2 ⟨huv, hM.up hc⟩)
      exact h.congr fun x y => (hM.mut_no hn).symm
  · have hcn : ∀ x y, cls x ≠ none → Cl (Ra arcs) x y → cls y ≠ none := fun x y hx hc => by
      cases hc with
      | base => exact hx
      | step _ hr => obtain ⟨e', hr⟩ := hr; exact (en e' _ hr).2
    intro x y hx hy
    have hx' : cls x ≠ none := fun e => hx ((hP.1 x).2 e)
    have hy' : cls y ≠ none := fun e => hy ((hP.1 y).2 e)
    rw [hP.2 x y hx' hy']
    have hN : ∀ a b, (a ∈ vs ∧ cls a = cls b ∧ ∃ e', delA arcs e e' = some (a, b)) → Ra (delA arcs e) a b := fun a b hh => hh.2.2
    have hin : ∀ x, x ∈ vs → cls x ≠ none → ∀ z, Cl (Ra (delA arcs e)) x z → Cl (Ra (delA arcs e)) z x → Cl (fun a b => a ∈ vs ∧ cls a = cls b ∧ ∃ e', delA arcs e e' = some (a, b)) x z := fun x hxv hxn z hz => by
      induction hz with
      | base => exact fun _ => .base
      | @step a b hc he ih =>
        intro hk
        have hax : Cl (Ra (delA arcs e)) a x := .head he hk
        have hxb : Cl (Ra (delA arcs e)) x b := .step hc he
        have ea := (h x a hxn (hcn x a hxn (hM.up hc))).2 ⟨hM.up hc, hM.up hax⟩
        have eb := (h x b hxn (hcn x b hxn (hM.up hxb))).2 ⟨hM.up hxb, hM.up hk⟩
        exact .step (ih hax) ⟨(hvs a).2 (ea.symm.trans ((hvs x).1 hxv)), ea.symm.trans eb, he⟩
    constructor
    · rintro (⟨h3, h4, h5⟩ | ⟨h3, h4, h5, h6⟩)
      · have hm := (h x y hx' hy').1 h5
        have hbad : ∀ a b, a ∉ vs → cls a ≠ none → Cl (Ra arcs) a b → Cl (Ra arcs) b a → Cl (Ra (delA arcs e)) a b := fun a b ha han h7 h8 => by
          rcases hM.cl.1 h7 with h9 | ⟨h9, h10⟩
          · exact h9
          · exact absurd ((hvs a).2 ((h a u han hu).2 ⟨hM.up h9, (huv.trans (hM.up h10)).trans h8⟩)) ha
        exact ⟨hbad x y h3 hx' hm.1 hm.2, hbad y x h4 hy' hm.2 hm.1⟩
      · exact ⟨h5.mono hN, h6.mono hN⟩
    · rintro ⟨h3, h4⟩
      have hc := (h x y hx' hy').2 ⟨hM.up h3, hM.up h4⟩
      by_cases hxv : x ∈ vs
      · have hyv : y ∈ vs := (hvs y).2 (hc.symm.trans ((hvs x).1 hxv))
        exact .inr ⟨hxv, hyv, hin x hxv hx' y h3 h4, hin y hyv hy' x h4 h3⟩
      · exact .inl ⟨hxv, fun hyv => hxv ((hvs x).2 (hc.trans ((hvs y).1 hyv))), hc⟩
end
end Go.Proofs.Ythomnpgpbhpojaa.Cd

/- The references' Sorted, walked. -/
namespace Go.Proofs.Ythomnpgpbhpojaa.Lw
open Go Go.RowKit Go.Proofs.Ythomnpgpbhpojaa.Mem Go.Proofs.Ythomnpgpbhpojaa.Sl Go.Proofs.Ythomnpgpbhpojaa.Scc Go.Proofs.Ythomnpgpbhpojaa.Tj Go.Proofs.YthomnpgpbhpojaaW.PrintWords Go.Proofs.YthomnpgpbhpojaaW.PrintLast
attribute [local go_sem ↓] Go.wp_at_zero Go.wp_at_succ
set_option linter.unusedSimpArgs false
set_option linter.unusedVariables false

theorem ins_ok {old : List Int} {a : Int} {k : Nat} (hs : old.Pairwise (· ≤ ·)) (hlow : ∀ x ∈ old.take k, x ≤ a) (hhigh : ∀ x ∈ old.drop k, a < x) {t : List Int} (ht : t.Perm old) : sorted (t ++ [a]) = old.take k ++ a :: old.drop k := by
  refine sorted_of ?_ ?_
  · have h1 : (t ++ [a]).Perm (a :: old) := List.perm_append_comm.trans (ht.cons a)
    refine h1.trans ?_
    have h2 : (old.take k ++ a :: old.drop k).Perm (a :: (old.take k ++ old.drop k)) := List.perm_middle
    rw [List.take_append_drop] at h2
    exact h2.symm
  · rw [List.pairwise_append, List.pairwise_cons]
    have hs' := hs
    rw [← List.take_append_drop k old, List.pairwise_append] at hs'
    refine ⟨hs'.1, ⟨fun x hx => Int.le_of_lt (hhigh x hx), hs'.2.1⟩, fun x hx y hy => ?_⟩
    rcases List.mem_cons.1 hy with rfl | hy
    · exact hlow x hx
    · exact hs'.2.2 x hx y hy

theorem low_all {old : List Int} {a : Int} {k : Nat} (hs : old.Pairwise (· ≤ ·)) (hk : k < old.length) (h : old[k] ≤ a) : ∀ x ∈ old.take (k + 1), x ≤ a := by
  intro x hx
  obtain ⟨j, hj, rfl⟩ := List.mem_take_iff_getElem.1 hx
  rcases Nat.lt_or_ge j k with h1 | h1
  · have := List.pairwise_iff_getElem.1 hs j k (by omega) hk h1
    omega
  · obtain rfl : j = k := by omega
    exact h

theorem hole_at {old : List Int} {h : Int} {k : Nat} (hk : k < old.length) : (old.take (k + 1) ++ h :: old.drop (k + 1))[k]? = some old[k] := by
  rw [List.getElem?_append_left (by rw [List.length_take]; omega), List.getElem?_take, if_pos (by omega), List.getElem?_eq_getElem hk]
theorem hole_set {old : List Int} {h x : Int} {k : Nat} (hk : k ≤ old.length) : (old.take k ++ h :: old.drop k).set k x = old.take k ++ x :: old.drop k := by
  have hl : (old.take k).length = k := by rw [List.length_take]; omega
  rw [List.set_append, if_neg (by omega), hl, Nat.sub_self, List.set_cons_zero]
theorem hole_down {old : List Int} {k : Nat} (hk : k < old.length) : old.take (k + 1) ++ old[k] :: old.drop (k + 1) = old.take k ++ old[k] :: old.drop k := by
  rw [List.take_succ_eq_append_getElem hk, List.append_assoc, List.drop_eq_getElem_cons hk]
  rfl
theorem hole_length {old : List Int} {h : Int} {k : Nat} (hk : k ≤ old.length) : (old.take k ++ h :: old.drop k).length = old.length + 1 := by
  rw [List.length_append, List.length_cons, List.length_take, List.length_drop]
  omega

def tb48_7.T7 : Bool × List (List Nat × List Nat) := (true, [([], []), ([0], [0]), ([1], [1]), ([2], [2]), ([2], [2]), ([4, 2], [2, 4]), ([3, 5, 2], [2, 3, 5]), ([6, 2], [2, 6]), ([2], [2]), ([2], [2]), ([8, 9, 2], [2, 8, 9]), ([10, 2], [2, 10]), ([7, 11, 2], [2, 7, 11]), ([2, 12], [2, 12])])
def tb48_7.B7 : List Nat := [0, 1, 3, 7, 7, 23, 63, 127, 7, 7, 775, 1799, 4095, 8191]
theorem tb48_7.tab7 : rtab .any (opsOf Try.f48 7) = tb48_7.T7 := by kernel_rfl
theorem tb48_7.bits7 : waitsOk tb48_7.T7.2 tb48_7.B7 = true := by kernel_rfl
set_option maxHeartbeats 8000000 in
set_option maxRecDepth 100000 in
theorem sorted_calls (w : World) (A : Option Addr) (c : Nat) (l : List Int) (hv : RdI w A l) (hl : l.length ≤ 1000000) :
    Calls Try.prog 48 #[.slice A l.length c] w fun e w' => ∃ v, e = .returned v ∧ One w 3 1 v l.length (ints (sorted l)) w' := by
  obtain ⟨i1, hi1, hz1, hs1, hy1⟩ := info_parts info_int
  have HV := Lib.hid hv
  clear hv
  go_enter Try.func48, Try.ntmps48
  go_wp2
  go_loopg [3, 4, 5] l.length (fun kq v3 v4 v5 w' => ∃ i : Nat, v4 = .int .i64 (i : Int) ∧ Hid (i + kq = l.length ∧ One w 3 1 v3 i (ints (sorted (l.take i))) w'))
  case atStart => exact ⟨0, rfl, Lib.hid ⟨by omega, by rw [List.take_zero]; simp only [sorted, List.mergeSort_nil]; exact One.start⟩⟩
  case round =>
    obtain ⟨i, rfl, hI⟩ := hrel
    obtain ⟨hik, hO⟩ := hI.out
    clear hI
    by_cases hi : i < l.length
    · obtain ⟨k1, rfl⟩ : ∃ k1, gk = k1 + 1 := ⟨gk - 1, by omega⟩
      obtain ⟨a, ha⟩ : ∃ a, l[i]? = some a := ⟨_, List.getElem?_eq_getElem hi⟩
      obtain ⟨b, rfl, ca⟩ := (HV.out.below hO.b) i a ha
      obtain ⟨t, htk⟩ : ∃ t, l.take i = t := ⟨_, rfl⟩
      have htl : l.take (i + 1) = t ++ [a] := by rw [List.take_add_one, ha, htk]; rfl
      rw [htk] at hO
      have hop : t.Perm (sorted t) := (List.mergeSort_perm t _).symm
      obtain ⟨old, hold⟩ : ∃ old, sorted t = old := ⟨_, rfl⟩
      have hos : old.Pairwise (· ≤ ·) := hold ▸ sorted_rising t
      rw [hold] at hO hop
      have hon : old.length = i := by have := hO.r.1; rw [ints_length] at this; omega
      obtain ⟨A3, c3, rfl⟩ := own_slice hO.r
      have HO := Lib.hid hO
      have HX := Lib.hid ha
      have HTL := Lib.hid htl
      have HOP := Lib.hid hop
      have HOS := Lib.hid hos
      have HON := Lib.hid hon
      have HIK := Lib.hid hik
      have j0 : (0 : Int) ≤ (i : Int) := by omega
      have j1 : (i : Int) < (l.length : Int) := by omega
      have j2 : (l.length : Int) ≤ 1000000 := by omega
      clear hO ha htl hop hos hon hik hold htk hi
      go_wp2_with ((at_builtin; refine wpList_append_any rfl (.tmp 14) (.tmp 19) 25 rfl w.heap.size 3 i1 (.int .i64 0) 1 8 Try.underlying25 hi1 hz1 hs1 hy1 rfl (by omega) _ _ _ rfl (HO.out.r.alloc (.cells #[.int .i64 a] 3)) _ rfl 1 [.int .i64 a] (RdV.lit wr #[.int .i64 a] 3 1 1 1 rfl (by simp [Value.oneCell'])) (by unfold maxLen; omega) (by omega) (by have := HO.out.b.size; simp; omega) ?_; intro v3 w3 ho hg hn; have hone := (HO.out.below ((Below.refl _ _).alloc (Nat.le_refl _) (.cells #[.int .i64 a] 3))).grow ho hg; have HO3 := Lib.hid hone; clear ho hg hn hone HO))
      have hw3 := HO3.out.r
      obtain ⟨g, cg, rfl, hgb, _⟩ := hw3.form (by omega)
      have HGB := Lib.hid hgb
      clear hw3 hgb ca
      go_loopg [5] i (fun k v5 w' => v5 = .int .i64 (k : Int) ∧ Hid (k ≤ i ∧ ∃ h, One w 3 1 (.slice (some ⟨g, 0, none⟩) (i + 1) cg) (i + 1) (ints (old.take k ++ h :: old.drop k)) w' ∧ ∀ x ∈ old.drop k, a < x))
      case atStart => exact ⟨rfl, Lib.hid ⟨Nat.le_refl _, a, by rw [List.take_of_length_le (Nat.le_of_eq HON.out), List.drop_of_length_le (Nat.le_of_eq HON.out), ← ints_snoc]; exact HO3.out, by rw [List.drop_of_length_le (Nat.le_of_eq HON.out)]; simp⟩⟩
      case round =>
        clear HO3
        obtain ⟨rfl, hI⟩ := hrel
        obtain ⟨hkn, h, hO, hhi⟩ := hI.out
        clear hI
        have hon := HON.out
        cases gk with
        | zero =>
          have HHI := Lib.hid hhi
          have HO := Lib.hid (show One w 3 1 (.slice (some ⟨g, 0, none⟩) (i + 1) cg) (i + 1) (ints (old.take 0 ++ h :: old.drop 0)) wr.drew from ⟨hO.r.drew, hO.b.drew⟩)
          clear hO hhi
          go_upto_region 7 with (fail)
          refine start_ (n := 14) (S := fun w' => True) (ds := []) (bA 14 0) (by kernel_rfl) rfl rfl trivial (fun hHeld => ?_)
          refine with_tabW tb48_7.tab7 tb48_7.bits7 (fun HT_ HW_ => ?_)
          refine pure_ (i := 0) (N := some 21) (v := ?_) (a' := ?_) (bA 14 1) rfl rfl (any_of HT_.out (by kernel_rfl)) (fun _ _ _ h => h) (Or.inl ⟨by rfl, ?_⟩) ?_ ?_
          rotate_left; · intro w'; go_simp; with_reducible rfl
          rotate_left; · simp only [Act.put, pA, pB, pC, pD, pE]; rfl
          refine pure_ (i := 1) (N := some 22) (v := ?_) (a' := ?_) (bA 14 3) rfl rfl (any_of HT_.out (by kernel_rfl)) (fun _ _ _ h => h) (Or.inl ⟨by rfl, ?_⟩) ?_ ?_
          rotate_left; · intro w'; go_simp; with_reducible rfl
          rotate_left; · simp only [Act.put, pA, pB, pC, pD, pE]; rfl
          refine pure_ (i := 2) (N := some 23) (v := ?_) (a' := ?_) (bA 14 7) rfl rfl (any_of HT_.out (by kernel_rfl)) (fun _ _ _ h => h) (Or.inl ⟨by rfl, ?_⟩) ?_ ?_
          rotate_left; · intro w'; go_simp; with_reducible rfl
          rotate_left; · simp only [Act.put, pA, pB, pC, pD, pE]; rfl
          refine pure_ (i := 3) (N := some 24) (v := undef) (a' := ?_) (bA 14 15) rfl rfl (any_of HT_.out (by kernel_rfl)) (fun _ _ _ h => h) (Or.inr ⟨by rfl, rfl⟩) ?_ ?_
          rotate_left; · simp only [Act.put, pA, pB, pC, pD, pE]; rfl
          refine pure_ (i := 4) (N := some 25) (v := undef) (a' := ?_) (bA 14 31) rfl rfl (any_of HT_.out (by kernel_rfl)) (fun _ _ _ h => h) (Or.inr ⟨by rfl, rfl⟩) ?_ ?_
          rotate_left; · simp only [Act.put, pA, pB, pC, pD, pE]; rfl
          refine pure_ (i := 5) (N := some 26) (v := undef) (a' := ?_) (bA 14 63) rfl rfl (any_of HT_.out (by kernel_rfl)) (fun _ _ _ h => h) (Or.inr ⟨by rfl, rfl⟩) ?_ ?_
          rotate_left; · simp only [Act.put, pA, pB, pC, pD, pE]; rfl
          refine pure_ (i := 6) (N := some 27) (v := undef) (a' := ?_) (bA 14 127) rfl rfl (any_of HT_.out (by kernel_rfl)) (fun _ _ _ h => h) (Or.inr ⟨by rfl, rfl⟩) ?_ ?_
          rotate_left; · simp only [Act.put, pA, pB, pC, pD, pE]; rfl
          refine pure_ (i := 7) (N := some 28) (v := undef) (a' := ?_) (bA 14 255) rfl rfl (any_of HT_.out (by kernel_rfl)) (fun _ _ _ h => h) (Or.inr ⟨by rfl, rfl⟩) ?_ ?_
          rotate_left; · simp only [Act.put, pA, pB, pC, pD, pE]; rfl
          refine pure_ (i := 8) (N := some 29) (v := undef) (a' := ?_) (bA 14 511) rfl rfl (any_of HT_.out (by kernel_rfl)) (fun _ _ _ h => h) (Or.inr ⟨by rfl, rfl⟩) ?_ ?_
          rotate_left; · simp only [Act.put, pA, pB, pC, pD, pE]; rfl
          refine pure_ (i := 9) (N := some 30) (v := undef) (a' := ?_) (bA 14 1023) rfl rfl (any_of HT_.out (by kernel_rfl)) (fun _ _ _ h => h) (Or.inr ⟨by rfl, rfl⟩) ?_ ?_
          rotate_left; · simp only [Act.put, pA, pB, pC, pD, pE]; rfl
          refine pure_ (i := 10) (N := some 31) (v := undef) (a' := ?_) (bA 14 2047) rfl rfl (any_of HT_.out (by kernel_rfl)) (fun _ _ _ h => h) (Or.inr ⟨by rfl, rfl⟩) ?_ ?_
          rotate_left; · simp only [Act.put, pA, pB, pC, pD, pE]; rfl
          refine pure_ (i := 11) (N := some 32) (v := undef) (a' := ?_) (bA 14 4095) rfl rfl (any_of HT_.out (by kernel_rfl)) (fun _ _ _ h => h) (Or.inr ⟨by rfl, rfl⟩) ?_ ?_
          rotate_left; · simp only [Act.put, pA, pB, pC, pD, pE]; rfl
          refine pure_ (i := 12) (N := some 33) (v := undef) (a' := ?_) (bA 14 8191) rfl rfl (any_of HT_.out (by kernel_rfl)) (fun _ _ _ h => h) (Or.inr ⟨by rfl, rfl⟩) ?_ ?_
          rotate_left; · simp only [Act.put, pA, pB, pC, pD, pE]; rfl
          refine pure_ (i := 13) (N := some 34) (v := ?_) (a' := ?_) (bA 14 16383) rfl rfl (any_of HT_.out (by kernel_rfl)) (fun _ _ _ h => h) (Or.inl ⟨by rfl, ?_⟩) ?_ ?_
          rotate_left; · intro w'; go_simp; with_reducible rfl
          rotate_left; · simp only [Act.put, pA, pB, pC, pD, pE]; rfl
          refine done_ (done_of HT_.out (by kernel_rfl)) ?_
          clear hHeld HT_ HW_
          obtain ⟨wz, hwz⟩ : ∃ wz, wr.drew = wz := ⟨_, rfl⟩
          rw [hwz] at HO ⊢
          clear hwz
          obtain ⟨x0, hx0⟩ : ∃ x0, (ints (old.take 0 ++ h :: old.drop 0))[0]? = some x0 := ⟨_, List.getElem?_eq_getElem (by rw [ints_length, hole_length (by omega)]; omega)⟩
          have hck : wz.cell? ⟨g, 0, none⟩ = some x0 := (HO.out.r.cellAt 0 (by omega)).trans hx0
          have hfr : wz.frozen? ⟨g, 0, none⟩ = false := HO.out.r.frozenAt 0
          have ca : wz.cell? ⟨b, i, none⟩ = some (.int .i64 a) := by
            obtain ⟨_, he, h3⟩ := (HV.out.below HO.out.b) i a HX.out
            cases he
            exact h3
          have hst := HO.out.r.stored 0 (.int .i64 a)
          rw [ints_set, hole_set (by omega)] at hst
          have hins := ins_ok (a := a) (k := 0) HOS.out (by simp) HHI.out HOP.out
          rw [← hins] at hst
          have hone : One w 3 1 (.slice (some ⟨g, 0, none⟩) (i + 1) cg) (i + 1) (ints (sorted (t ++ [a]))) (wz.setCell ⟨g, 0, none⟩ (.int .i64 a)) := ⟨hst.1, HO.out.b.setCell HGB.out _⟩
          have HN := Lib.hid hone
          clear hst hins hone HO hx0 HHI
          go_wp2_with fail
          go_roundg k1
          case measure => have := HIK.out; omega
          case rel => exact ⟨i + 1, by go_num, Lib.hid ⟨by have := HIK.out; omega, by rw [HTL.out]; exact HN.out⟩⟩
        | succ k =>
          obtain ⟨y, hy⟩ : ∃ y, old[k]? = some y := ⟨_, List.getElem?_eq_getElem (by omega)⟩
          obtain ⟨hkl, hye⟩ := List.getElem?_eq_some_iff.1 hy
          have cy := (hO.r.cellAt k (by omega)).trans (ints_at _ ((hole_at (h := h) hkl).trans (congrArg some hye)))
          obtain ⟨_, he, ca⟩ := (HV.out.below hO.b) i a HX.out
          cases he
          have k0 : (0 : Int) ≤ (k : Int) := by omega
          have k1' : (k : Int) < (i : Int) + 1 := by omega
          have k2' : (k : Int) + 1 < (i : Int) + 1 := by omega
          have e3 : decide ((0 : Int) < ((k + 1 : Nat) : Int)) = true := by rw [decide_eq_true_eq]; omega
          have e4 : ∀ x : Nat, x = k → wrap64 (x : Int) = (x : Int) := fun x hx => by subst hx; unfold wrap64; omega
          have HKN := Lib.hid hkn
          have HKL := Lib.hid hkl
          by_cases hya : a < y
          · have e5 : decide (a < y) = true := by rw [decide_eq_true_eq]; exact hya
            have hOz : One w 3 1 (.slice (some ⟨g, 0, none⟩) (i + 1) cg) (i + 1) (ints (old.take (k + 1) ++ h :: old.drop (k + 1))) wr.drew := ⟨hO.r.drew, hO.b.drew⟩
            obtain ⟨x0, hx0⟩ : ∃ x0, (ints (old.take (k + 1) ++ h :: old.drop (k + 1)))[k + 1]? = some x0 := ⟨_, List.getElem?_eq_getElem (by rw [ints_length, hole_length (by omega)]; omega)⟩
            have cyz : wr.drew.cell? ⟨g, k, none⟩ = some (.int .i64 y) := cy
            have hck := (hOz.r.cellAt (k + 1) (by omega)).trans hx0
            have hfr := hOz.r.frozenAt (k + 1)
            have hst := hOz.r.stored (k + 1) (.int .i64 y)
            rw [ints_set, hole_set (by omega)] at hst
            rw [show old.take (k + 1) ++ y :: old.drop (k + 1) = old.take k ++ y :: old.drop k by rw [← hye]; exact hole_down hkl] at hst
            have hone : One w 3 1 (.slice (some ⟨g, 0, none⟩) (i + 1) cg) (i + 1) (ints (old.take k ++ y :: old.drop k)) (wr.drew.setCell ⟨g, k + 1, none⟩ (.int .i64 y)) := ⟨hst.1, hOz.b.setCell HGB.out _⟩
            have HH := Lib.hid (show ∀ x ∈ old.drop k, a < x from fun x hx => by
              rw [List.drop_eq_getElem_cons hkl] at hx
              rcases List.mem_cons.1 hx with rfl | hx
              · rw [hye]; exact hya
              · exact hhi x hx)
            obtain ⟨wz, hwz⟩ : ∃ wz, wr.drew = wz := ⟨_, rfl⟩
            rw [hwz] at cyz hck hfr hone
            have HN := Lib.hid hone
            have HWZ := Lib.hid hwz
            clear hO hOz hst hone hhi hx0 hy hya hkl hye hkn hwz
            go_upto_region 7 with (fail)
            refine start_ (n := 14) (S := fun w' => w'.cell? ⟨g, k, none⟩ = some (.int .i64 y) ∧ w'.cell? ⟨b, i, none⟩ = some (.int .i64 a)) (ds := []) (bA 14 0) (by kernel_rfl) rfl rfl ⟨cy, ca⟩ (fun hHeld => ?_)
            refine with_tabW tb48_7.tab7 tb48_7.bits7 (fun HT_ HW_ => ?_)
            refine pure_ (i := 0) (N := some 21) (v := ?_) (a' := ?_) (bA 14 1) rfl rfl (any_of HT_.out (by kernel_rfl)) (fun _ _ _ h => h) (Or.inl ⟨by rfl, ?_⟩) ?_ ?_
            rotate_left; · intro w'; go_simp; with_reducible rfl
            rotate_left; · simp only [Act.put, pA, pB, pC, pD, pE]; rfl
            refine pure_ (i := 1) (N := some 22) (v := ?_) (a' := ?_) (bA 14 3) rfl rfl (any_of HT_.out (by kernel_rfl)) (fun _ _ _ h => h) (Or.inl ⟨by rfl, ?_⟩) ?_ ?_
            rotate_left; · intro w'; go_simp; with_reducible rfl
            rotate_left; · simp only [Act.put, pA, pB, pC, pD, pE]; rfl
            refine pure_ (i := 2) (N := some 23) (v := ?_) (a' := ?_) (bA 14 7) rfl rfl (any_of HT_.out (by kernel_rfl)) (fun _ _ _ h => h) (Or.inl ⟨by rfl, ?_⟩) ?_ ?_
            rotate_left; · intro w'; go_simp; with_reducible rfl
            rotate_left; · simp only [Act.put, pA, pB, pC, pD, pE]; rfl
            refine pure_ (i := 3) (N := some 24) (v := ?_) (a' := ?_) (bA 14 15) rfl rfl (any_of HT_.out (by kernel_rfl)) (fun _ _ _ h => h) (Or.inl ⟨by rfl, ?_⟩) ?_ ?_
            rotate_left; · intro w'; go_simp; with_reducible rfl
            rotate_left; · simp only [Act.put, pA, pB, pC, pD, pE]; rfl
            refine pure_ (i := 4) (N := some 25) (v := ?_) (a' := ?_) (bA 14 31) rfl rfl (any_of HT_.out (by kernel_rfl)) (fun _ _ _ h => h) (Or.inl ⟨by rfl, ?_⟩) ?_ ?_
            rotate_left; · intro w'; go_simp; with_reducible rfl
            rotate_left; · simp only [Act.put, pA, pB, pC, pD, pE]; rfl
            refine pure_ (i := 5) (N := some 26) (v := ?_) (a' := ?_) (bA 14 63) rfl rfl (any_of HT_.out (by kernel_rfl)) (fun _ _ _ h => h) (Or.inl ⟨by rfl, ?_⟩) ?_ ?_
            rotate_left; · intro w'; go_simp; with_reducible rfl
            rotate_left; · simp only [Act.put, pA, pB, pC, pD, pE]; rfl
            refine pure_ (i := 6) (N := some 27) (v := ?_) (a' := ?_) (bA 14 127) rfl rfl (any_of HT_.out (by kernel_rfl)) (fun _ _ _ h => h) (Or.inl ⟨by rfl, ?_⟩) ?_ ?_
            rotate_left; · intro w'; go_simp; with_reducible rfl
            rotate_left; · simp only [Act.put, pA, pB, pC, pD, pE]; rfl
            refine pure_ (i := 8) (N := some 29) (v := ?_) (a' := ?_) (bA 14 383) rfl rfl (any_of HT_.out (by kernel_rfl)) (fun _ _ _ h => h) (Or.inl ⟨by rfl, ?_⟩) ?_ ?_
            rotate_left; · intro w'; go_simp; with_reducible rfl
            rotate_left; · simp only [Act.put, pA, pB, pC, pD, pE]; rfl
            refine pure_ (i := 9) (N := some 30) (v := ?_) (a' := ?_) (bA 14 895) rfl rfl (any_of HT_.out (by kernel_rfl)) (fun _ _ _ h => h) (Or.inl ⟨by rfl, ?_⟩) ?_ ?_
            rotate_left; · intro w'; go_simp; with_reducible rfl
            rotate_left; · simp only [Act.put, pA, pB, pC, pD, pE]; rfl
            refine pure_ (i := 10) (N := some 31) (v := ?_) (a' := ?_) (bA 14 1919) rfl rfl (any_of HT_.out (by kernel_rfl)) (fun _ _ _ h => h) (Or.inl ⟨by rfl, ?_⟩) ?_ ?_
            rotate_left; · intro w'; go_simp; with_reducible rfl
            rotate_left; · simp only [Act.put, pA, pB, pC, pD, pE]; rfl
            refine take_ (i := 7) (N := some 28) (v := ?_) (a' := ?_) (bA 14 2047) rfl rfl (take_ofW HT_.out HW_.out (by kernel_rfl)) (fun _ _ _ h => h) (Or.inl ⟨by rfl, ?_⟩) hHeld ?_ ?_
            rotate_left
            · rintro w' ⟨s0, s1⟩
              go_simp; with_reducible rfl
            rotate_left; · simp only [Act.put, pA, pB, pC, pD, pE]; rfl
            refine take_ (i := 11) (N := some 32) (v := ?_) (a' := ?_) (bA 14 4095) rfl rfl (take_ofW HT_.out HW_.out (by kernel_rfl)) (fun _ _ _ h => h) (Or.inl ⟨by rfl, ?_⟩) hHeld ?_ ?_
            rotate_left
            · rintro w' ⟨s0, s1⟩
              go_simp; with_reducible rfl
            rotate_left; · simp only [Act.put, pA, pB, pC, pD, pE]; rfl
            refine pure_ (i := 12) (N := some 33) (v := ?_) (a' := ?_) (bA 14 8191) rfl rfl (any_of HT_.out (by kernel_rfl)) (fun _ _ _ h => h) (Or.inl ⟨by rfl, ?_⟩) ?_ ?_
            rotate_left; · intro w'; go_simp; with_reducible rfl
            rotate_left; · simp only [Act.put, pA, pB, pC, pD, pE]; rfl
            refine pure_ (i := 13) (N := some 34) (v := ?_) (a' := ?_) (bA 14 16383) rfl rfl (any_of HT_.out (by kernel_rfl)) (fun _ _ _ h => h) (Or.inl ⟨by rfl, ?_⟩) ?_ ?_
            rotate_left; · intro w'; go_simp; with_reducible rfl
            rotate_left; · simp only [Act.put, pA, pB, pC, pD, pE]; rfl
            refine done_ (done_of HT_.out (by kernel_rfl)) ?_
            clear hHeld HT_ HW_
            rw [HWZ.out]
            clear cy ca HWZ
            go_wp2
            go_roundg k
            case measure => omega
            case rel => exact ⟨by go_num, Lib.hid ⟨by have := HKN.out; omega, y, HN.out, HH.out⟩⟩
          · have e5 : decide (a < y) = false := by rw [decide_eq_false_iff_not]; exact hya
            have HLOW := Lib.hid (low_all (a := a) HOS.out hkl (by rw [hye]; omega))
            have HHI := Lib.hid hhi
            have HO := Lib.hid (show One w 3 1 (.slice (some ⟨g, 0, none⟩) (i + 1) cg) (i + 1) (ints (old.take (k + 1) ++ h :: old.drop (k + 1))) wr.drew from ⟨hO.r.drew, hO.b.drew⟩)
            clear hO hhi hy hya hkl hye hkn
            go_upto_region 7 with (fail)
            refine start_ (n := 14) (S := fun w' => w'.cell? ⟨g, k, none⟩ = some (.int .i64 y) ∧ w'.cell? ⟨b, i, none⟩ = some (.int .i64 a)) (ds := []) (bA 14 0) (by kernel_rfl) rfl rfl ⟨cy, ca⟩ (fun hHeld => ?_)
            refine with_tabW tb48_7.tab7 tb48_7.bits7 (fun HT_ HW_ => ?_)
            refine pure_ (i := 0) (N := some 21) (v := ?_) (a' := ?_) (bA 14 1) rfl rfl (any_of HT_.out (by kernel_rfl)) (fun _ _ _ h => h) (Or.inl ⟨by rfl, ?_⟩) ?_ ?_
            rotate_left; · intro w'; go_simp; with_reducible rfl
            rotate_left; · simp only [Act.put, pA, pB, pC, pD, pE]; rfl
            refine pure_ (i := 1) (N := some 22) (v := ?_) (a' := ?_) (bA 14 3) rfl rfl (any_of HT_.out (by kernel_rfl)) (fun _ _ _ h => h) (Or.inl ⟨by rfl, ?_⟩) ?_ ?_
            rotate_left; · intro w'; go_simp; with_reducible rfl
            rotate_left; · simp only [Act.put, pA, pB, pC, pD, pE]; rfl
            refine pure_ (i := 2) (N := some 23) (v := ?_) (a' := ?_) (bA 14 7) rfl rfl (any_of HT_.out (by kernel_rfl)) (fun _ _ _ h => h) (Or.inl ⟨by rfl, ?_⟩) ?_ ?_
            rotate_left; · intro w'; go_simp; with_reducible rfl
            rotate_left; · simp only [Act.put, pA, pB, pC, pD, pE]; rfl
            refine pure_ (i := 3) (N := some 24) (v := ?_) (a' := ?_) (bA 14 15) rfl rfl (any_of HT_.out (by kernel_rfl)) (fun _ _ _ h => h) (Or.inl ⟨by rfl, ?_⟩) ?_ ?_
            rotate_left; · intro w'; go_simp; with_reducible rfl
            rotate_left; · simp only [Act.put, pA, pB, pC, pD, pE]; rfl
            refine pure_ (i := 4) (N := some 25) (v := ?_) (a' := ?_) (bA 14 31) rfl rfl (any_of HT_.out (by kernel_rfl)) (fun _ _ _ h => h) (Or.inl ⟨by rfl, ?_⟩) ?_ ?_
            rotate_left; · intro w'; go_simp; with_reducible rfl
            rotate_left; · simp only [Act.put, pA, pB, pC, pD, pE]; rfl
            refine pure_ (i := 5) (N := some 26) (v := ?_) (a' := ?_) (bA 14 63) rfl rfl (any_of HT_.out (by kernel_rfl)) (fun _ _ _ h => h) (Or.inl ⟨by rfl, ?_⟩) ?_ ?_
            rotate_left; · intro w'; go_simp; with_reducible rfl
            rotate_left; · simp only [Act.put, pA, pB, pC, pD, pE]; rfl
            refine pure_ (i := 6) (N := some 27) (v := ?_) (a' := ?_) (bA 14 127) rfl rfl (any_of HT_.out (by kernel_rfl)) (fun _ _ _ h => h) (Or.inl ⟨by rfl, ?_⟩) ?_ ?_
            rotate_left; · intro w'; go_simp; with_reducible rfl
            rotate_left; · simp only [Act.put, pA, pB, pC, pD, pE]; rfl
            refine pure_ (i := 8) (N := some 29) (v := ?_) (a' := ?_) (bA 14 383) rfl rfl (any_of HT_.out (by kernel_rfl)) (fun _ _ _ h => h) (Or.inl ⟨by rfl, ?_⟩) ?_ ?_
            rotate_left; · intro w'; go_simp; with_reducible rfl
            rotate_left; · simp only [Act.put, pA, pB, pC, pD, pE]; rfl
            refine pure_ (i := 9) (N := some 30) (v := ?_) (a' := ?_) (bA 14 895) rfl rfl (any_of HT_.out (by kernel_rfl)) (fun _ _ _ h => h) (Or.inl ⟨by rfl, ?_⟩) ?_ ?_
            rotate_left; · intro w'; go_simp; with_reducible rfl
            rotate_left; · simp only [Act.put, pA, pB, pC, pD, pE]; rfl
            refine pure_ (i := 10) (N := some 31) (v := ?_) (a' := ?_) (bA 14 1919) rfl rfl (any_of HT_.out (by kernel_rfl)) (fun _ _ _ h => h) (Or.inl ⟨by rfl, ?_⟩) ?_ ?_
            rotate_left; · intro w'; go_simp; with_reducible rfl
            rotate_left; · simp only [Act.put, pA, pB, pC, pD, pE]; rfl
            refine take_ (i := 7) (N := some 28) (v := ?_) (a' := ?_) (bA 14 2047) rfl rfl (take_ofW HT_.out HW_.out (by kernel_rfl)) (fun _ _ _ h => h) (Or.inl ⟨by rfl, ?_⟩) hHeld ?_ ?_
            rotate_left
            · rintro w' ⟨s0, s1⟩
              go_simp; with_reducible rfl
            rotate_left; · simp only [Act.put, pA, pB, pC, pD, pE]; rfl
            refine take_ (i := 11) (N := some 32) (v := ?_) (a' := ?_) (bA 14 4095) rfl rfl (take_ofW HT_.out HW_.out (by kernel_rfl)) (fun _ _ _ h => h) (Or.inl ⟨by rfl, ?_⟩) hHeld ?_ ?_
            rotate_left
            · rintro w' ⟨s0, s1⟩
              go_simp; with_reducible rfl
            rotate_left; · simp only [Act.put, pA, pB, pC, pD, pE]; rfl
            refine pure_ (i := 12) (N := some 33) (v := ?_) (a' := ?_) (bA 14 8191) rfl rfl (any_of HT_.out (by kernel_rfl)) (fun _ _ _ h => h) (Or.inl ⟨by rfl, ?_⟩) ?_ ?_
            rotate_left; · intro w'; go_simp; with_reducible rfl
            rotate_left; · simp only [Act.put, pA, pB, pC, pD, pE]; rfl
            refine pure_ (i := 13) (N := some 34) (v := ?_) (a' := ?_) (bA 14 16383) rfl rfl (any_of HT_.out (by kernel_rfl)) (fun _ _ _ h => h) (Or.inl ⟨by rfl, ?_⟩) ?_ ?_
            rotate_left; · intro w'; go_simp; with_reducible rfl
            rotate_left; · simp only [Act.put, pA, pB, pC, pD, pE]; rfl
            refine done_ (done_of HT_.out (by kernel_rfl)) ?_
            clear hHeld HT_ HW_; clear cy ca
            obtain ⟨wz, hwz⟩ : ∃ wz, wr.drew = wz := ⟨_, rfl⟩
            rw [hwz] at HO ⊢
            clear hwz
            have hkn := HKN.out
            obtain ⟨x0, hx0⟩ : ∃ x0, (ints (old.take (k + 1) ++ h :: old.drop (k + 1)))[(k + 1)]? = some x0 := ⟨_, List.getElem?_eq_getElem (by rw [ints_length, hole_length (by omega)]; omega)⟩
            have hck : wz.cell? ⟨g, (k + 1), none⟩ = some x0 := (HO.out.r.cellAt (k + 1) (by omega)).trans hx0
            have hfr : wz.frozen? ⟨g, (k + 1), none⟩ = false := HO.out.r.frozenAt (k + 1)
            have ca : wz.cell? ⟨b, i, none⟩ = some (.int .i64 a) := by
              obtain ⟨_, he, h3⟩ := (HV.out.below HO.out.b) i a HX.out
              cases he
              exact h3
            have hst := HO.out.r.stored (k + 1) (.int .i64 a)
            rw [ints_set, hole_set (by omega)] at hst
            have hins := ins_ok (a := a) (k := (k + 1)) HOS.out HLOW.out HHI.out HOP.out
            rw [← hins] at hst
            have hone : One w 3 1 (.slice (some ⟨g, 0, none⟩) (i + 1) cg) (i + 1) (ints (sorted (t ++ [a]))) (wz.setCell ⟨g, (k + 1), none⟩ (.int .i64 a)) := ⟨hst.1, HO.out.b.setCell HGB.out _⟩
            have HN := Lib.hid hone
            clear hst hins hone HO hx0 HHI
            go_wp2_with fail
            go_roundg k1
            case measure => have := HIK.out; omega
            case rel => exact ⟨i + 1, by go_num, Lib.hid ⟨by have := HIK.out; omega, by rw [HTL.out]; exact HN.out⟩⟩
    · obtain rfl : i = l.length := by omega
      rw [List.take_length] at hO
      have HO := Lib.hid hO
      clear hO hik hi
      go_wp2
      go_ret
      exact ⟨_, rfl, HO.out⟩

end Go.Proofs.Ythomnpgpbhpojaa.Lw
