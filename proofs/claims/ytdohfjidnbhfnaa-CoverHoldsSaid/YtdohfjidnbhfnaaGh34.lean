/- brambleref11.Build: what is kept. -/
import Derived.Test.YtdohfjidnbhfnaaGh33
namespace Go.Proofs.Ytdohfjidnbhfnaa.Rb
open Go Go.RowKit Go.Proofs.Ytdohfjidnbhfnaa.Mem Go.Proofs.Ytdohfjidnbhfnaa.Sl Go.Proofs.Ytdohfjidnbhfnaa.Scc Go.Proofs.Ytdohfjidnbhfnaa.Tj Go.Proofs.Ytdohfjidnbhfnaa.Lw Go.Proofs.Ytdohfjidnbhfnaa.Cv Go.Proofs.YtdohfjidnbhfnaaW.PrintWords Go.Proofs.YtdohfjidnbhfnaaW.PrintLast
attribute [local go_sem ↓] Go.wp_at_zero Go.wp_at_succ
set_option linter.unusedSimpArgs false
set_option linter.unusedVariables false

def zC : List Value := [.slice none 0 0, .slice none 0 0, .int .i64 0, .int .i64 0, .slice none 0 0, .slice none 0 0, .slice none 0 0]

structure Off (g : Nat) (w w' : World) : Prop where
  os : w'.os = w.os
  tape : w'.tape = w.tape
  output : w'.output = w.output
  size : w'.heap.size = w.heap.size
  heap : ∀ k, k ≠ g → w'.heap[k]? = w.heap[k]?
section
variable {g : Nat} {w w' a b c : World} {cs cs' : List Value} {T e : TypeId}
theorem Off.refl (g : Nat) (w : World) : Off g w w := ⟨rfl, rfl, rfl, rfl, fun _ _ => rfl⟩
theorem Off.set (h : Off g a b) (i : Nat) (u : Value) : Off g a (b.setCell ⟨g, i, none⟩ u) :=
  ⟨h.os, h.tape, h.output, by simpa [World.setCell] using h.size, fun k hk => (heap_setCell_other b ⟨g, i, none⟩ k u hk).trans (h.heap k hk)⟩
theorem Off.drew (h : Off g a b) : Off g a b.drew := ⟨h.os, h.tape, h.output, h.size, h.heap⟩
theorem Off.at_ (h : Off g w w') {g' : Nat} (ha : At w g' cs T) (hne : g' ≠ g) : At w' g' cs T := (h.heap g' hne).trans ha
theorem Off.own (h : Off g w w') {base s k : Nat} {v : Value} {xs : List Value} (ho : w.ownsRow base e s v k xs) (hne : some g ≠ v.ownBlock) : w'.ownsRow base e s v k xs :=
  ho.kept (row := some g) ⟨h.os, h.tape, h.output, Nat.le_of_eq h.size.symm, fun m _ hm => h.heap m (fun e => hm (by rw [e]))⟩ (.inr fun e => hne e.symm)
theorem Off.ownT (h : Off g w w') {base s k : Nat} {v : Value} {xs : List Value} (ho : w.ownsRow base e s v k xs) (ha : At w g cs T) (hne : T ≠ e) : w'.ownsRow base e s v k xs := h.own ho (own_off ho ha hne)
theorem Off.below (h : Off g w w') {B : Nat} (hB : B ≤ g) (hs : B ≤ w.heap.size) : Below B w w' := ⟨h.os, h.tape, h.output, Nat.le_of_eq h.size.symm, fun k hk => h.heap k (by omega)⟩
theorem Off.cell (h : Off g w w') {b i : Nat} {v : Value} (hc : w.cell? ⟨b, i, none⟩ = some v) (hne : b ≠ g) : w'.cell? ⟨b, i, none⟩ = some v :=
  (World.cell?_of_block (w := w) (h.heap b hne)).trans hc
theorem Off.rdC (h : Off g w w') {A : Option Addr} {n : Nat} {E : Nat → Nat → Prop} (hr : RdC w A n E) (ha : At w g cs T) (hnb : ∀ y, Value.bool y ∉ cs) (h1 : 0 < n → ∀ b, A = some ⟨b, 0, none⟩ → b ≠ g) : RdC w' A n E := fun i hi => by
  obtain ⟨b, B, cB, e1, e2, e3⟩ := hr i hi
  refine ⟨b, B, cB, e1, h.cell e2 (h1 (by omega) b e1), fun x hx => h.cell (e3 x hx) ?_⟩
  rintro rfl
  have := e3 x hx
  rw [ha.cell?] at this
  exact hnb _ (List.mem_of_getElem? this)
end

structure Old (W : World) (B s : Nat) (e : TypeId) (size : Nat) (v : Value) (n : Nat) (xs : List Value) : Prop where
  o : W.ownsRow B e size v n xs
  lt : ∀ k, v.ownBlock = some k → k < s
section
variable {W W' : World} {B s size n : Nat} {e : TypeId} {v : Value} {xs : List Value}
theorem Old.mk' (h : W.ownsRow B e size v n xs) : Old W B W.heap.size e size v n xs := ⟨h, fun k hk => (h.lt k hk).2⟩
theorem Old.below (h : Old W B s e size v n xs) (hb : Below W.heap.size W W') : Old W' B s e size v n xs := ⟨own_below h.o hb, h.lt⟩
theorem Old.al (h : Old W B s e size v n xs) {o : Obj} : Old (W.alloc o) B s e size v n xs := ⟨h.o.alloc o, h.lt⟩
theorem Old.drew (h : Old W B s e size v n xs) : Old W.drew B s e size v n xs := ⟨h.o, h.lt⟩
theorem Old.grown (h : Old W B s e size v n xs) {e2 : TypeId} {s2 n2 B2 : Nat} {v2 : Value} {xs2 : List Value} (h2 : W.ownsRow B2 e2 s2 v2 n2 xs2) (hB : s ≤ B2) (hg : W.grownBy W' v2.ownBlock) : Old W' B s e size v n xs := by
  refine ⟨h.o.kept hg ?_, h.lt⟩
  cases hv : v.ownBlock with
  | none => exact .inl rfl
  | some k =>
    refine .inr fun hh => ?_
    have h1 := h.lt k hv
    have := (h2.lt k hh.symm).1
    omega
theorem Old.off (h : Old W B s e size v n xs) {g : Nat} (hO : Off g W W') (hg : some g ≠ v.ownBlock) : Old W' B s e size v n xs := ⟨hO.own h.o hg, h.lt⟩
theorem Old.offT (h : Old W B s e size v n xs) {g : Nat} {cs : List Value} {T : TypeId} (hO : Off g W W') (ha : At W g cs T) (hne : T ≠ e) : Old W' B s e size v n xs := ⟨hO.ownT h.o ha hne, h.lt⟩
theorem Old.far (h : Old W B s e size v n xs) {g : Nat} (hg : s ≤ g) : some g ≠ v.ownBlock := fun hh => by
  have := h.lt g hh.symm
  omega
end

structure BS (w : World) (gr gx : Nat) (cs : List Value) (W : World) : Prop where
  r : At W gr zC 30
  x : At W gx cs 30
  ne : gr ≠ gx
  hr : w.heap.size ≤ gr
  hx : w.heap.size ≤ gx
  b : Below w.heap.size w W
section
variable {w W W' : World} {gr gx : Nat} {cs : List Value}
theorem BS.below (h : BS w gr gx cs W) (hb : Below W.heap.size W W') : BS w gr gx cs W' := ⟨h.r.below hb h.r.lt, h.x.below hb h.x.lt, h.ne, h.hr, h.hx, h.b.trans (hb.mono h.b.size)⟩
theorem BS.al (h : BS w gr gx cs W) {o : Obj} : BS w gr gx cs (W.alloc o) := ⟨h.r.al, h.x.al, h.ne, h.hr, h.hx, h.b.alloc h.b.size _⟩
theorem BS.drew (h : BS w gr gx cs W) : BS w gr gx cs W.drew := ⟨h.r, h.x, h.ne, h.hr, h.hx, h.b.drew⟩
theorem BS.grown (h : BS w gr gx cs W) {e : TypeId} {s n B : Nat} {v : Value} {xs : List Value} (ho : W.ownsRow B e s v n xs) (hB : w.heap.size ≤ B) (hne : 30 ≠ e) (hg : W.grownBy W' v.ownBlock) : BS w gr gx cs W' :=
  ⟨h.r.grown hg (own_off ho h.r hne), h.x.grown hg (own_off ho h.x hne), h.ne, h.hr, h.hx, h.b.grown hg h.b.size fun k hk => Nat.le_trans hB (ho.lt k hk).1⟩
theorem BS.put (h : BS w gr gx cs W) (i : Nat) (u : Value) : BS w gr gx (cs.set i u) (W.setCell ⟨gx, i, none⟩ u) := ⟨h.r.off h.ne, h.x.set i u, h.ne, h.hr, h.hx, h.b.setCell h.hx _⟩
theorem BS.offq (h : BS w gr gx cs W) {g : Nat} (hO : Off g W W') (h1 : gr ≠ g) (h2 : gx ≠ g) (hg : w.heap.size ≤ g) : BS w gr gx cs W' := ⟨hO.at_ h.r h1, hO.at_ h.x h2, h.ne, h.hr, h.hx, h.b.trans (hO.below hg h.b.size)⟩
end

def EdD (l : List (Int × Int)) (xs : List Value) : Prop := EdC l xs ∧ ∀ j : Nat, j < l.length → xs[j * 4]? = some (.int .i64 ((j : Int) + 1)) ∧ xs[j * 4 + 3]? = some (.int .u32 0)
theorem EdD.nil : EdD [] [] := ⟨EdC.nil, fun j h => by simp at h⟩
theorem EdD.snoc {l : List (Int × Int)} {xs : List Value} {u v : Int} {k : Nat} (h : EdD l xs) (hk : l.length = k) : EdD (l ++ [(u, v)]) (xs ++ [.int .i64 ((k : Int) + 1), .int .i64 u, .int .i64 v, .int .u32 0]) := by
  subst hk
  have hl := h.1.1
  refine ⟨h.1.snoc, fun j hj => ?_⟩
  rw [List.length_append, List.length_singleton] at hj
  rcases Nat.lt_or_ge j l.length with hj2 | hj2
  · rw [List.getElem?_append_left (by omega), List.getElem?_append_left (by omega)]
    exact h.2 j hj2
  · obtain rfl : j = l.length := by omega
    rw [List.getElem?_append_right (by omega), List.getElem?_append_right (by omega), show l.length * 4 - xs.length = 0 by omega, show l.length * 4 + 3 - xs.length = 3 by omega]
    exact ⟨rfl, rfl⟩
def RdX (w : World) (A : Option Addr) (l : List (Int × Int)) : Prop := ∀ j : Nat, j < l.length → ∃ b, A = some ⟨b, 0, none⟩ ∧ w.cell? ⟨b, j * 4, none⟩ = some (.int .i64 ((j : Int) + 1)) ∧ w.cell? ⟨b, j * 4 + 3, none⟩ = some (.int .u32 0)
theorem RdX.below {w w' : World} {A : Option Addr} {l : List (Int × Int)} (h : RdX w A l) (hb : Below w.heap.size w w') : RdX w' A l := fun j hj => by
  obtain ⟨b, h1, h2, h3⟩ := h j hj
  exact ⟨b, h1, keep_at hb h2, keep_at hb h3⟩
theorem RdX.of_own {W : World} {B m ce : Nat} {AE : Option Addr} {xs : List Value} {arcs : List (Int × Int)} (h : W.ownsRow B 36 4 (.slice AE m ce) m xs) (hx : EdD arcs xs) (hm : m = arcs.length) : RdX W AE arcs := fun i hl => by
  obtain ⟨ge, hge, _, hcc⟩ := cell_flat h (by omega)
  have hcs := hx.2 i hl
  exact ⟨ge, hge, hcc _ _ hcs.1, hcc _ _ hcs.2⟩

structure RefC (w : World) (n : Nat) (A AE AP AQ AR : Option Addr) (arcs : List (Int × Int)) (pars : List Int) (posts : List Int) (E : Nat → Nat → Prop) : Prop where
  vs : RdI w A (rng n)
  es : RdE w AE arcs
  ex : RdX w AE arcs
  ps : RdI w AP pars
  qs : RdI w AQ posts
  rs : RdC w AR n E
theorem RefC.below {w w' : World} {n : Nat} {A AE AP AQ AR : Option Addr} {arcs : List (Int × Int)} {pars posts : List Int} {E : Nat → Nat → Prop} (h : RefC w n A AE AP AQ AR arcs pars posts E) (hb : Below w.heap.size w w') : RefC w' n A AE AP AQ AR arcs pars posts E :=
  ⟨h.vs.below hb, h.es.below hb, h.ex.below hb, h.ps.below hb, h.qs.below hb, h.rs.below hb⟩

theorem rng_succ (i : Nat) : rng (i + 1) = rng i ++ [(i : Int)] := by
  unfold rng
  rw [List.range_succ, List.map_append]
  rfl
theorem RdE.of_own {W : World} {B m ce : Nat} {AE : Option Addr} {xs : List Value} {arcs : List (Int × Int)} (h : W.ownsRow B 36 4 (.slice AE m ce) m xs) (hx : EdC arcs xs) (hm : m = arcs.length) : RdE W AE arcs := fun i u v hi => by
  have hl : i < arcs.length := (List.getElem?_eq_some_iff.1 hi).1
  obtain ⟨ge, hge, _, hcc⟩ := cell_flat h (by omega)
  have hcs := hx.2 i u v hi
  exact ⟨ge, hge, hcc _ _ hcs.1, hcc _ _ hcs.2⟩

def ParT (n : Nat) (arcs : List (Int × Int)) (v : Int) (t : Nat) (p : Int) : Prop :=
  (p = -1 ∧ ∀ u : Nat, t ≤ u → u < n → ((u : Int), v) ∉ arcs) ∨ ((p, v) ∈ arcs ∧ ∀ u : Nat, t ≤ u → u < n → ((u : Int), v) ∈ arcs → p ≤ u)
theorem ParT.start (n : Nat) (arcs : List (Int × Int)) (v : Int) : ParT n arcs v n (-1) := .inl ⟨rfl, fun u h1 h2 => by omega⟩
theorem ParT.yes {n t : Nat} {arcs : List (Int × Int)} {v p : Int} (h : ParT n arcs v (t + 1) p) (he : ((t : Int), v) ∈ arcs) : ParT n arcs v t (t : Int) := .inr ⟨he, fun u h1 _ _ => by omega⟩
theorem ParT.no {n t : Nat} {arcs : List (Int × Int)} {v p : Int} (h : ParT n arcs v (t + 1) p) (he : ((t : Int), v) ∉ arcs) : ParT n arcs v t p := by
  rcases h with ⟨h1, h2⟩ | ⟨h1, h2⟩
  · refine .inl ⟨h1, fun u a b => ?_⟩
    rcases Nat.eq_or_lt_of_le a with rfl | a
    · exact he
    · exact h2 u a b
  · refine .inr ⟨h1, fun u a b c => ?_⟩
    rcases Nat.eq_or_lt_of_le a with rfl | a
    · exact absurd c he
    · exact h2 u a b c
theorem ParT.fin {n v : Nat} {arcs : List (Int × Int)} {p : Int} (hg : Cv.Good n arcs) (h : ParT n arcs (v : Int) 0 p) (hv : v < n) : p = (parsOf n arcs).getD v 0 := by
  have hall : ∀ u : Int, (u, (v : Int)) ∈ arcs → ∃ k : Nat, u = (k : Int) ∧ k < n := fun u hu => by
    have := hg _ hu
    dsimp only at this
    exact ⟨u.toNat, by omega, by omega⟩
  rcases (hg.par).2 v hv with ⟨a1, a2⟩ | ⟨a1, a2⟩ <;> rcases h with ⟨h1, h2⟩ | ⟨h1, h2⟩
  · omega
  · exact absurd h1 (a2 _)
  · obtain ⟨k, hk, hkn⟩ := hall _ a1
    rw [hk] at a1
    exact absurd a1 (h2 k (Nat.zero_le _) hkn)
  · obtain ⟨k, hk, hkn⟩ := hall _ a1
    have b1 := a2 _ h1
    have b2 := h2 k (Nat.zero_le _) hkn (hk ▸ a1)
    omega
theorem take_snoc {l : List Int} {i : Nat} (h : i < l.length) : l.take (i + 1) = l.take i ++ [l.getD i 0] := by
  rw [List.take_add_one, List.getElem?_eq_getElem h, List.getD_eq_getElem?_getD, List.getElem?_eq_getElem h]
  rfl

def psU (n : Nat) (L : List Nat) (i : Nat) : List Int := (List.range n).map fun x => if L.idxOf x < i then ((L.idxOf x + 1 : Nat) : Int) else 0
theorem psU_length (n : Nat) (L : List Nat) (i : Nat) : (psU n L i).length = n := by simp [psU]
theorem psU_zero (n : Nat) (L : List Nat) : psU n L 0 = List.replicate n 0 := by
  apply List.ext_getElem (by simp [psU])
  intro j h1 h2
  simp [psU]
theorem idx_at : ∀ {L : List Nat} {i x : Nat}, L.Nodup → L[i]? = some x → L.idxOf x = i
  | [], i, x, _, h => by simp at h
  | y :: r, 0, x, _, h => by
    have : y = x := by simpa using h
    subst this
    simp
  | y :: r, i + 1, x, hn, h => by
    rw [List.nodup_cons] at hn
    have hx : r[i]? = some x := by simpa using h
    have hne : y ≠ x := fun e => hn.1 (e ▸ List.mem_of_getElem? hx)
    rw [List.idxOf_cons, idx_at hn.2 hx, beq_eq_false_iff_ne.2 hne]
    rfl
theorem psU_set {n i x : Nat} {L : List Nat} (hn : L.Nodup) (hx : L[i]? = some x) : (psU n L i).set x ((i : Int) + 1) = psU n L (i + 1) := by
  have hi := idx_at hn hx
  apply List.ext_getElem (by simp [psU])
  intro j h1 h2
  rw [List.getElem_set]
  by_cases hj : x = j
  · subst hj
    rw [if_pos rfl]
    simp [psU, hi]
  · rw [if_neg hj]
    simp only [psU, List.getElem_map, List.getElem_range]
    by_cases h : L.idxOf j < i
    · rw [if_pos h, if_pos (by omega)]
    · rw [if_neg h, if_neg]
      intro h3
      have hji : L.idxOf j = i := by omega
      have hlt : i < L.length := (List.getElem?_eq_some_iff.1 hx).1
      have hjm : L[i] = j := by
        have := List.getElem_idxOf (x := j) (xs := L) (by rw [hji]; exact hlt)
        simpa [hji] using this
      rw [List.getElem?_eq_getElem hlt, hjm] at hx
      exact hj (Option.some.inj hx).symm
def postsOf (n : Nat) (pars : List Int) : List Int := (List.range n).map fun x => (postN pars x : Int)
theorem psU_full {n : Nat} {pars : List Int} {rk : Nat → Nat} (h : Rk n pars rk) : psU n (bl pars (-1)) n = postsOf n pars := by
  apply List.ext_getElem (by simp [psU, postsOf])
  intro j h1 h2
  have hj : j < n := by simpa [psU] using h1
  simp only [psU, postsOf, List.getElem_map, List.getElem_range]
  have h3 := post_of h hj
  rw [if_pos (by unfold postN at h3; omega)]
  rfl

structure PS (w : World) (gr gx gq s4 n m : Nat) (A AE AP Ao : Option Addr) (cg ce cp co : Nat) (xs : List Value) (pars : List Int) (L : List Nat) (vals : List Int) (W : World) : Prop where
  b : BS w gr gx [.slice A n cg, .slice AE m ce, .int .i64 0, .int .i64 0, .slice AP n cp, .slice (some ⟨gq, 0, none⟩) n n, .slice none 0 0] W
  a : Old W w.heap.size s4 3 1 (.slice A n cg) n (ints (rng n))
  e : Old W w.heap.size s4 36 4 (.slice AE m ce) m xs
  p : Old W w.heap.size s4 3 1 (.slice AP n cp) n (ints pars)
  o : Old W w.heap.size s4 3 1 (.slice Ao n co) n (ints (nums L))
  q : At W gq (ints vals) 3
  hq : s4 ≤ gq
  hs : w.heap.size ≤ s4
section
variable {w W W' : World} {gr gx gq s4 n m : Nat} {A AE AP Ao : Option Addr} {cg ce cp co : Nat} {xs : List Value} {pars : List Int} {L : List Nat} {vals : List Int}
theorem PS.below (h : PS w gr gx gq s4 n m A AE AP Ao cg ce cp co xs pars L vals W) (hb : Below W.heap.size W W') : PS w gr gx gq s4 n m A AE AP Ao cg ce cp co xs pars L vals W' :=
  ⟨h.b.below hb, h.a.below hb, h.e.below hb, h.p.below hb, h.o.below hb, h.q.below hb h.q.lt, h.hq, h.hs⟩
theorem PS.drew (h : PS w gr gx gq s4 n m A AE AP Ao cg ce cp co xs pars L vals W) : PS w gr gx gq s4 n m A AE AP Ao cg ce cp co xs pars L vals W.drew :=
  ⟨h.b.drew, h.a.drew, h.e.drew, h.p.drew, h.o.drew, h.q, h.hq, h.hs⟩
theorem PS.set (h : PS w gr gx gq s4 n m A AE AP Ao cg ce cp co xs pars L vals W) (j : Nat) (y : Int) : PS w gr gx gq s4 n m A AE AP Ao cg ce cp co xs pars L (vals.set j y) (W.setCell ⟨gq, j, none⟩ (.int .i64 y)) := by
  have hO := (Off.refl gq W).set j (.int .i64 y)
  have h1 : gr ≠ gq := h.b.r.ne h.q (by decide)
  have h2 : gx ≠ gq := h.b.x.ne h.q (by decide)
  exact ⟨h.b.offq hO h1 h2 (Nat.le_trans h.hs h.hq), h.a.off hO (h.a.far h.hq), h.e.off hO (h.e.far h.hq), h.p.off hO (h.p.far h.hq), h.o.off hO (h.o.far h.hq), h.q.put (ints_set _ _ _).symm, h.hq, h.hs⟩
theorem ps_start (hB : BS w gr gx [.slice A n cg, .slice AE m ce, .int .i64 0, .int .i64 0, .slice AP n cp, .slice none 0 0, .slice none 0 0] W) (P1 : Old W w.heap.size s4 3 1 (.slice A n cg) n (ints (rng n))) (P2 : Old W w.heap.size s4 36 4 (.slice AE m ce) m xs)
    (P3 : Old W w.heap.size s4 3 1 (.slice AP n cp) n (ints pars)) (P4 : Old W w.heap.size s4 3 1 (.slice Ao n co) n (ints (nums L))) (hs : W.heap.size = s4) (hw : w.heap.size ≤ s4) {o : Obj} {vals : List Int} (ho : ∀ W2 : World, W2.heap.size = s4 → At (W2.alloc o) s4 (ints vals) 3) :
    PS w gr gx s4 s4 n m A AE AP Ao cg ce cp co xs pars L vals ((W.setCell ⟨gx, 5, none⟩ (.slice (some ⟨s4, 0, none⟩) n n)).alloc o) := by
  have hO := (Off.refl gx W).set 5 (.slice (some ⟨s4, 0, none⟩) n n)
  exact ⟨(hB.put 5 _).al, (P1.offT hO hB.x (by decide)).al, (P2.offT hO hB.x (by decide)).al, (P3.offT hO hB.x (by decide)).al, (P4.offT hO hB.x (by decide)).al, ho _ (hO.size.trans hs), Nat.le_refl _, hw⟩
theorem PS.fin {arcs : List (Int × Int)} {AR : Option Addr} {cr : Nat} {E : Nat → Nat → Prop} (h : PS w gr gx gq s4 n m A AE AP Ao cg ce cp co xs pars L vals W) (hx : EdD arcs xs) (hm : m = arcs.length) (hrc : RdC W AR n E)
    (hO : Off gr (W.setCell ⟨gx, 6, none⟩ (.slice AR n cr)) W') : RefC W' n A AE AP (some ⟨gq, 0, none⟩) AR arcs pars vals E := by
  have O1 := (Off.refl gx W).set 6 (.slice AR n cr)
  have B7 := h.b.put 6 (.slice AR n cr)
  have hne : 0 < n → ∀ b, AR = some ⟨b, 0, none⟩ → b ≠ gr ∧ b ≠ gx := fun hn b hb => by
    obtain ⟨b', B, cB, e1, e2, e3⟩ := hrc 0 hn
    rw [e1] at hb
    cases hb
    constructor
    · rintro rfl
      rw [h.b.r.cell 0 rfl] at e2
      cases e2
    · rintro rfl
      rw [h.b.x.cell 0 rfl] at e2
      cases e2
      obtain ⟨b2, e4, e5⟩ := (RdI.of_own h.a.o).1 0 _ (rng_at hn)
      cases e4
      rw [e3 0 hn] at e5
      cases e5
  have hq1 : gq ≠ gx := h.q.ne h.b.x (by decide)
  have hq2 : gq ≠ gr := h.q.ne h.b.r (by decide)
  have hq3 : At W' gq (ints vals) 3 := hO.at_ (O1.at_ h.q hq1) hq2
  refine ⟨(RdI.of_own ((h.a.offT O1 h.b.x (by decide)).offT hO B7.r (by decide)).o).1, RdE.of_own ((h.e.offT O1 h.b.x (by decide)).offT hO B7.r (by decide)).o hx.1 hm, RdX.of_own ((h.e.offT O1 h.b.x (by decide)).offT hO B7.r (by decide)).o hx hm, (RdI.of_own ((h.p.offT O1 h.b.x (by decide)).offT hO B7.r (by decide)).o).1, fun j x hx => ⟨gq, rfl, hq3.cell j (Mem.ints_at _ hx)⟩, ?_⟩
  refine hO.rdC (O1.rdC hrc h.b.x (fun y hy => by simp at hy) (fun hn b hb => (hne hn b hb).2)) B7.r (fun y hy => by simp [zC] at hy) (fun hn b hb => (hne hn b hb).1)
end

end Go.Proofs.Ytdohfjidnbhfnaa.Rb
