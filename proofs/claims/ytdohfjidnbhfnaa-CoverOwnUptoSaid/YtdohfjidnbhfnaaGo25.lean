/- Graphs on 0 to n - 1 without a walk that comes back: what scc answers; labels, plainly. -/
import Derived.Test.YtdohfjidnbhfnaaGo20
import Derived.Test.YtdohfjidnbhfnaaGo24
import Derived.Test.YtdohfjidnbhfnaaGo21
import Derived.RangeFuncNested
import Derived.RangeFuncBound
import Derived.RangeFuncCalls
import Derived.RangeFuncLeaves
import Derived.Shelf.Abstract
import Derived.Shelf.RegionOpen
import Derived.WalkKit
import Derived.OwnWalkIn
import Derived.TacticsInMore
import Derived.LoopNIn
import Derived.LoopIn
import Derived.Test.YtdohfjidnbhfnaaGo2
import Derived.Test.YtdohfjidnbhfnaaGo4
import Derived.Test.YtdohfjidnbhfnaaGo22
import Derived.Test.YtdohfjidnbhfnaaGo23
namespace Go.Proofs.Ytdohfjidnbhfnaa.Cv
open Go.Proofs.Ytdohfjidnbhfnaa.Tj Go.Proofs.Ytdohfjidnbhfnaa.Lw Go.Proofs.Ytdohfjidnbhfnaa.Sl
set_option linter.unusedVariables false

def rng (n : Nat) : List Int := (List.range n).map fun i : Nat => (i : Int)
theorem rng_length (n : Nat) : (rng n).length = n := by simp [rng]
theorem rng_at {n i : Nat} (h : i < n) : (rng n)[i]? = some (i : Int) := by
  unfold rng
  rw [List.getElem?_map, List.getElem?_range h]
  rfl
theorem rng_getD {n i : Nat} (h : i < n) : (rng n).getD i 0 = (i : Int) := by rw [List.getD_eq_getElem?_getD, rng_at h]; rfl
theorem mem_rng {n : Nat} {x : Int} : x ∈ rng n ↔ 0 ≤ x ∧ x < n := by
  unfold rng
  rw [List.mem_map]
  constructor
  · rintro ⟨i, hi, rfl⟩
    rw [List.mem_range] at hi
    omega
  · rintro ⟨h1, h2⟩
    exact ⟨x.toNat, List.mem_range.2 (by omega), by omega⟩
theorem rng_lt (n : Nat) : (rng n).Pairwise (· < ·) := by
  unfold rng
  rw [List.pairwise_map]
  exact List.pairwise_lt_range.imp fun h => by omega
theorem rng_sorted (n : Nat) : sorted (rng n) = rng n := sorted_of (List.Perm.refl _) ((rng_lt n).imp fun h => by omega)
theorem rng_nodup (n : Nat) : (rng n).Nodup := List.nodup_iff_pairwise_ne.2 ((rng_lt n).imp fun h => by omega)
theorem place_rng {n x : Nat} (h : x < n) : place (rng n) (x : Int) = x := by
  have h1 : x < (rng n).length := by rw [rng_length]; exact h
  have h2 : (rng n)[x] = (x : Int) := by
    have := rng_at h
    rw [List.getElem?_eq_getElem h1] at this
    exact Option.some.inj this
  have := place_at (rng n) x (rng_lt n) h1
  rw [h2] at this
  exact this
def Good (n : Nat) (arcs : List (Int × Int)) : Prop := ∀ p ∈ arcs, 0 ≤ p.1 ∧ p.1 < n ∧ 0 ≤ p.2 ∧ p.2 < n
theorem good_rng {n : Nat} {arcs : List (Int × Int)} : good (rng n) arcs = true ↔ Good n arcs := by
  rw [good_iff]
  unfold Good
  constructor
  · intro h p hp
    obtain ⟨h1, h2⟩ := h p hp
    have := mem_rng.1 (List.contains_iff_mem.1 h1)
    have := mem_rng.1 (List.contains_iff_mem.1 h2)
    omega
  · intro h p hp
    obtain ⟨h1, h2, h3, h4⟩ := h p hp
    exact ⟨List.contains_iff_mem.2 (mem_rng.2 ⟨h1, h2⟩), List.contains_iff_mem.2 (mem_rng.2 ⟨h3, h4⟩)⟩
def EA (arcs : List (Int × Int)) (u v : Nat) : Prop := ((u : Int), (v : Int)) ∈ arcs
theorem Good.lt {n : Nat} {arcs : List (Int × Int)} (h : Good n arcs) {u v : Nat} (he : EA arcs u v) : u < n ∧ v < n := by
  have := h _ he
  dsimp only at this
  omega
theorem PE_rng {n : Nat} {arcs : List (Int × Int)} (h : Good n arcs) (u v : Nat) : PE (rng n) arcs u v ↔ EA arcs u v := by
  constructor
  · rintro ⟨⟨a, b⟩, hp, h1, h2⟩
    obtain ⟨g1, g2, g3, g4⟩ := h _ hp
    dsimp only at *
    obtain ⟨a, rfl⟩ := Int.eq_ofNat_of_zero_le g1
    obtain ⟨b, rfl⟩ := Int.eq_ofNat_of_zero_le g3
    rw [place_rng (by omega)] at h1 h2
    subst h1 h2
    exact hp
  · intro he
    obtain ⟨h1, h2⟩ := h.lt he
    exact ⟨_, he, place_rng h1, place_rng h2⟩
theorem PE_rng' {n : Nat} {arcs : List (Int × Int)} (h : Good n arcs) : PE (rng n) arcs = EA arcs := by
  funext u v
  exact propext (PE_rng h u v)

theorem fo_id : ∀ (l : List Nat) (k : Nat), fo l k = some (k + l.length) → ∀ i, i < l.length → l.getD i 0 = k + i
  | [], _, _, i, h => by simp at h
  | c :: r, k, h, i, hi => by
    rw [fo] at h
    split at h
    · have := fo_le r k _ h
      rw [List.length_cons] at this
      omega
    · split at h
      · rename_i h1 h2
        subst h2
        cases i with
        | zero => rfl
        | succ i =>
          have := fo_id r (c + 1) (by rw [h, List.length_cons]; congr 1; omega) i (by simpa using hi)
          rw [List.getD_cons_succ, this]
          omega
      · cases h
structure Acy (n : Nat) (arcs : List (Int × Int)) : Prop where
  good : Good n arcs
  anti : ∀ x y, x < n → y < n → Rch (EA arcs) x y → Rch (EA arcs) y x → x = y
  self : ∀ u, ¬ EA arcs u u
theorem acy_of {n m : Nat} {arcs : List (Int × Int)} {comp : List Nat} (hg : Good n arcs) (hc : CompOf n (PE (rng n) arcs) comp m) (h : acyB arcs m n = true) : Acy n arcs ∧ m = n ∧ ∀ i, i < n → comp.getD i 0 = i := by
  unfold acyB at h
  split at h
  · rename_i hs
    have hm : m = n := by simpa using h
    subst hm
    rw [PE_rng' hg] at hc
    obtain ⟨h1, h2, h3⟩ := hc
    have hid := fo_id comp 0 (by rw [h2, h1, Nat.zero_add])
    rw [h1] at hid
    refine ⟨⟨hg, fun x y hx hy r1 r2 => ?_, fun u he => ?_⟩, rfl, fun i hi => by rw [hid i hi, Nat.zero_add]⟩
    · have := (h3 x y hx hy).2 ⟨r1, r2⟩
      rw [hid x hx, hid y hy] at this
      omega
    · have := List.all_eq_true.1 hs _ he
      simp at this
  · cases h
theorem acy_not {n m : Nat} {arcs : List (Int × Int)} {comp : List Nat} (hc : CompOf n (PE (rng n) arcs) comp m) (h : acyB arcs m n = false) : ¬ Acy n arcs := by
  intro ha
  rw [PE_rng' ha.good] at hc
  obtain ⟨h1, h2, h3⟩ := hc
  unfold acyB at h
  split at h
  · have hmn : m ≠ n := by simpa using h
    have hle := fo_le comp 0 m h2
    -- each vertex is a component of its own: n numbers come up
    have hinj : ∀ i j, i < comp.length → j < comp.length → comp.getD i 0 = comp.getD j 0 → i = j := fun i j hi hj e => by
      obtain ⟨r1, r2⟩ := (h3 i j (by omega) (by omega)).1 e
      exact ha.anti i j (by omega) (by omega) r1 r2
    have key : ∀ (l : List Nat) (k m : Nat), fo l k = some m → (∀ c ∈ l, k ≤ c) → l.Nodup → m = k + l.length := by
      intro l
      induction l with
      | nil => intro k m hf _ _; cases hf; rfl
      | cons c r ih =>
        intro k m hf hk hn
        rw [fo] at hf
        have hck := hk c (by simp)
        rw [if_neg (by omega)] at hf
        split at hf
        · rename_i he
          subst he
          rw [List.nodup_cons] at hn
          have := ih (c + 1) m hf (fun d hd => by
            have h4 := hk d (by simp [hd])
            have h5 : d ≠ c := fun e => hn.1 (e ▸ hd)
            omega) hn.2
          rw [List.length_cons]
          omega
        · cases hf
    have hnd : comp.Nodup := by
      rw [List.nodup_iff_pairwise_ne, List.pairwise_iff_getElem]
      intro i j hi hj hij e
      have := hinj i j hi hj (by rw [List.getD_eq_getElem?_getD, List.getD_eq_getElem?_getD, List.getElem?_eq_getElem hi, List.getElem?_eq_getElem hj, e])
      omega
    have := key comp 0 m h2 (fun _ _ => Nat.zero_le _) hnd
    omega
  · rename_i hs
    apply hs
    rw [List.all_eq_true]
    rintro ⟨a, b⟩ hp
    obtain ⟨g1, g2, g3, g4⟩ := ha.good _ hp
    dsimp only at *
    simp only [decide_eq_true_eq]
    rintro rfl
    obtain ⟨a, rfl⟩ := Int.eq_ofNat_of_zero_le g1
    exact ha.self a hp

theorem nodup_idx {F : List Nat} (h : F.Nodup) {i j : Nat} (hi : i < F.length) (hj : j < F.length) (he : F[i] = F[j]) : i = j := by
  rw [List.nodup_iff_pairwise_ne, List.pairwise_iff_getElem] at h
  rcases Nat.lt_trichotomy i j with h1 | h1 | h1
  · exact absurd he (h i j hi hj h1)
  · exact h1
  · exact absurd he.symm (h j i hj hi h1)
structure Top (n : Nat) (arcs : List (Int × Int)) (F : List Nat) : Prop where
  len : F.length = n
  all : ∀ v, v < n → v ∈ F
  lt : ∀ v ∈ F, v < n
  nodup : F.Nodup
  on : ∀ (i j u v : Nat), F[i]? = some u → F[j]? = some v → EA arcs u v → i < j
theorem top_of {n m : Nat} {arcs : List (Int × Int)} {comp F : List Nat} (hg : Good n arcs) (hc : CompOf n (PE (rng n) arcs) comp m) (h : acyB arcs m n = true) (hF : IsOrder (Arc n (PE (rng n) arcs) comp) m F) :
    Top n arcs F ∧ F.map (headZ comp (rng n)) = F.map fun i : Nat => (i : Int) := by
  obtain ⟨ha, hm, hid⟩ := acy_of hg hc h
  subst hm
  obtain ⟨h1, h2, h3⟩ := hF
  have hlt : ∀ v ∈ F, v < m := fun v hv => by
    obtain ⟨P, Q, hPQ⟩ := List.append_of_mem hv
    exact (h1 P v Q hPQ).1
  have hnd : F.Nodup := by
    rw [List.nodup_iff_pairwise_ne, List.pairwise_iff_getElem]
    intro i j hi hj hij e
    have hs : F = F.take j ++ F[j] :: F.drop (j + 1) := by rw [← List.drop_eq_getElem_cons hj, List.take_append_drop]
    have := (h1 _ _ _ hs).2.1
    rw [← e] at this
    exact this (List.mem_take_iff_getElem.2 ⟨i, by omega, rfl⟩)
  refine ⟨⟨h3, h2, hlt, hnd, fun i j u v hi hj he => ?_⟩, List.map_congr_left fun c hc' => ?_⟩
  · obtain ⟨hj1, hj2⟩ := List.getElem?_eq_some_iff.1 hj
    obtain ⟨hi1, hi2⟩ := List.getElem?_eq_some_iff.1 hi
    have hs : F = F.take j ++ v :: F.drop (j + 1) := by rw [← hj2, ← List.drop_eq_getElem_cons hj1, List.take_append_drop]
    obtain ⟨_, _, h5, _⟩ := h1 _ _ _ hs
    obtain ⟨hu, hv⟩ := hg.lt he
    have hin : u ∈ F.take j := by
      apply Decidable.byContradiction
      intro hn
      refine h5 u hu hn ⟨fun e => ha.self u (e ▸ he), u, v, hu, (PE_rng hg u v).2 he, hid u hu, hid v hv⟩
    obtain ⟨i', hi', he'⟩ := List.mem_take_iff_getElem.1 hin
    have : i = i' := nodup_idx hnd hi1 (by omega) (by rw [hi2, he'])
    omega
  · have hcn := hlt c hc'
    obtain ⟨c1, c2, c3⟩ := hc
    unfold headZ
    rw [grpZ_head c comp (rng m) c (by rw [c1, rng_length]) (by omega) (hid c hcn) (fun u hu => by rw [hid u (by omega)]; omega), rng_getD hcn]
theorem Top.rank {n : Nat} {arcs : List (Int × Int)} {F : List Nat} (h : Top n arcs F) {u v : Nat} (hu : u < n) (hv : v < n) (he : EA arcs u v) : F.idxOf u < F.idxOf v := by
  have h1 := List.idxOf_lt_length_of_mem (h.all u hu)
  have h2 := List.idxOf_lt_length_of_mem (h.all v hv)
  exact h.on _ _ u v (by rw [List.getElem?_eq_getElem h1, List.getElem_idxOf]) (by rw [List.getElem?_eq_getElem h2, List.getElem_idxOf]) he
theorem Good.par {n : Nat} {arcs : List (Int × Int)} (h : Good n arcs) : IsPar n (fun a b => (a, b) ∈ arcs) (parsOf n arcs) := parsOf_ok fun p hp => by have := h p hp; omega
theorem Top.rk {n : Nat} {arcs : List (Int × Int)} {F : List Nat} (hg : Good n arcs) (h : Top n arcs F) : Rk n (parsOf n arcs) fun v => F.idxOf v := by
  have hp := hg.par
  refine ⟨hp.1, fun v hv => by rw [← h.len]; exact List.idxOf_lt_length_of_mem (h.all v hv), fun v hv => ?_⟩
  rcases hp.2 v hv with ⟨h1, _⟩ | ⟨h1, _⟩
  · exact .inl h1
  · right
    have h2 := hg _ h1
    dsimp only at h2
    obtain ⟨p, hpp⟩ := Int.eq_ofNat_of_zero_le h2.1
    rw [hpp] at h1 h2
    exact ⟨p, by omega, hpp, h.rank (by omega) hv h1⟩

def LabOk (n : Nat) (arcs : List (Int × Int)) (post : Nat → Nat) (v : Nat) (l : List (Int × Int)) : Prop :=
  Sp.Ok l ∧ ∀ y : Int, Sp.Mem l y ↔ ∃ x, x < n ∧ Rch (EA arcs) v x ∧ y = (post x : Int)
theorem rch_head {E : Nat → Nat → Prop} {a c : Nat} (h : Rch E a c) : a = c ∨ ∃ b, E a b ∧ Rch E b c := by
  induction h with
  | refl => exact .inl rfl
  | step _ he ih =>
    rcases ih with rfl | ⟨b, h1, h2⟩
    · exact .inr ⟨_, he, .refl _⟩
    · exact .inr ⟨b, h1, .step h2 he⟩
theorem bl_rch {n : Nat} {arcs : List (Int × Int)} {rk : Nat → Nat} (hg : Good n arcs) (h : Rk n (parsOf n arcs) rk) : ∀ u, Val n u → ∀ p : Nat, u = (p : Int) → ∀ x ∈ bl (parsOf n arcs) u, Rch (EA arcs) p x :=
  tree_ind h fun u hu ih p hp x hx => by
    subst hp
    obtain ⟨w, hw, hx⟩ := (mem_bl h hu).1 hx
    obtain ⟨hwn, hwp⟩ := h.kid hw
    have he : EA arcs p w := by
      rcases hg.par.2 w hwn with ⟨h1, _⟩ | ⟨h1, _⟩
      · omega
      · rw [hwp] at h1; exact h1
    rcases hx with hx | rfl
    · exact (Rch.one he).trans (ih w hw w rfl x hx)
    · exact .one he
def LabMid (n : Nat) (arcs : List (Int × Int)) (pars : List Int) (v : Nat) (seen : List Nat) (l : List (Int × Int)) : Prop :=
  Sp.Ok l ∧ ∀ y : Int, Sp.Mem l y ↔ (∃ x, (x ∈ bl pars (v : Int) ∨ x = v) ∧ y = (postN pars x : Int)) ∨ ∃ w ∈ seen, ∃ x, x < n ∧ Rch (EA arcs) w x ∧ y = (postN pars x : Int)
theorem LabMid.start {n : Nat} {arcs : List (Int × Int)} {rk : Nat → Nat} {pars : List Int} (h : Rk n pars rk) (hn : n ≤ 1000) {v : Nat} (hv : v < n) : LabMid n arcs pars v [] (Sp.addR [] (lowN pars v : Int) (postN pars v : Int)) := by
  obtain ⟨h1, h2, h3, h4⟩ := low_post h hv
  have h5 := (post_of h hv).2.2
  refine ⟨Sp.Ok.nil.add (by omega) (by omega) (by omega), fun y => ?_⟩
  rw [(Sp.addR_ok (b := 0) (l := []) trivial (by omega) (by omega)).2 y]
  constructor
  · rintro (hh | ⟨g1, g2⟩)
    · exact absurd hh (Sp.mem_nil _)
    · obtain ⟨y, rfl⟩ := Int.eq_ofNat_of_zero_le (show 0 ≤ y by omega)
      obtain ⟨z, hz1, hz2⟩ := (h4 y).1 ⟨by omega, by omega⟩
      exact .inl ⟨z, hz1, by rw [hz2]⟩
  · rintro (⟨x, hx, rfl⟩ | ⟨w, hw, _⟩)
    · have := (h4 (postN pars x)).2 ⟨x, hx, rfl⟩
      exact .inr ⟨by omega, by omega⟩
    · simp at hw
theorem LabMid.join {n : Nat} {arcs : List (Int × Int)} {pars : List Int} {v w : Nat} {seen : List Nat} {l t : List (Int × Int)} (h : LabMid n arcs pars v seen l) (ht : LabOk n arcs (postN pars) w t) : LabMid n arcs pars v (seen ++ [w]) (Sp.joinR l t) := by
  refine ⟨h.1.join ht.1, fun y => ?_⟩
  rw [(Sp.joinR_ok t l 0 h.1.1 ht.1.1).2 y, h.2 y, ht.2 y]
  constructor
  · rintro ((hh | ⟨a, ha, hb⟩) | hh)
    · exact .inl hh
    · exact .inr ⟨a, by simp [ha], hb⟩
    · exact .inr ⟨w, by simp, hh⟩
  · rintro (hh | ⟨a, ha, hb⟩)
    · exact .inl (.inl hh)
    · rcases List.mem_append.1 ha with ha | ha
      · exact .inl (.inr ⟨a, ha, hb⟩)
      · have : a = w := by simpa using ha
        subst this
        exact .inr hb
theorem LabMid.done {n : Nat} {arcs : List (Int × Int)} {rk : Nat → Nat} (hg : Good n arcs) (hr : Rk n (parsOf n arcs) rk) {v : Nat} (hv : v < n) {seen : List Nat} {l : List (Int × Int)} (h : LabMid n arcs (parsOf n arcs) v seen l) (hs : ∀ w, w ∈ seen ↔ EA arcs v w) : LabOk n arcs (postN (parsOf n arcs)) v l := by
  refine ⟨h.1, fun y => ?_⟩
  rw [h.2 y]
  constructor
  · rintro (⟨x, hx | rfl, rfl⟩ | ⟨w, hw, x, hx, hrx, rfl⟩)
    · exact ⟨x, (bl_rk hr _ (.inr ⟨v, hv, rfl⟩) x hx).1, bl_rch hg hr _ (.inr ⟨v, hv, rfl⟩) v rfl x hx, rfl⟩
    · exact ⟨x, hv, .refl _, rfl⟩
    · exact ⟨x, hx, (Rch.one ((hs w).1 hw)).trans hrx, rfl⟩
  · rintro ⟨x, hx, hrx, rfl⟩
    rcases rch_head hrx with rfl | ⟨w, hw, hrw⟩
    · exact .inl ⟨v, .inr rfl, rfl⟩
    · exact .inr ⟨w, (hs w).2 hw, x, hx, hrw, rfl⟩

end Go.Proofs.Ytdohfjidnbhfnaa.Cv

/- A range over a function: a region that draws its order, in a round; what a turn of a block that is no cells leaves; the library's two iterators. -/
namespace Go.Proofs.Ytdohfjidnbhfnaa.Rf
set_option linter.unusedSimpArgs false
set_option linter.unusedVariables false
open Go Go.RowKit Go.Proofs.Ytdohfjidnbhfnaa.Mem Go.Proofs.YtdohfjidnbhfnaaW.PrintWords Go.Proofs.YtdohfjidnbhfnaaW.PrintLast

theorem rowsIn_wide {n : Nat} {P : Program} {row : String} {args : Array Value} {w : World} {R : Value → World → Prop} (h : Rows P row args w R) : RowsIn Fence.wide n P row args w R :=
  fun c cs _ => let ⟨v, w', r, s⟩ := h c cs; ⟨v, w', r, stepsIn_wide.2 s⟩

def noDefer (ops : Array Oper) : Bool := ops.all fun o => match o.op with | .defer _ => false | _ => true

theorem oper_in {P : Program} {o : Oper} {a : Act} {w : World} {K K' : Act → World → Prop} {Q : Exit → Act → World → Prop} {l n : Nat} (hd : ∀ c, o.op ≠ .defer c) (hK : ∀ a w, K a w → K' a w) (h : o.wp P a w K Q) : o.wpIn (Fence.wide.inRound l) n P a w K' Q := by
  replace h := Oper.wp_mono hK h
  refine ⟨fun _ _ => trivial, ?_⟩
  rw [Oper.semAt_eq _ _ _ hd]
  unfold Oper.wp at h
  cases hr : (execOp a.eval o).run P w with
  | ok x w' =>
    rw [hr] at h
    cases x with
    | value v => exact h
    | skip => exact h
    | defer d => exact h
    | enter f args =>
      refine ⟨fun e => (by cases e), ?_⟩
      exact CallsIn.inRound l ((callsIn_wide (n := n - 1)).2 h)
    | row row args =>
      refine ⟨fun e => (by cases e), ?_⟩
      exact rowsIn_wide (n := n - 1) h
    | _ => exact h.elim
  | halt x w' =>
    rw [hr] at h
    cases x with
    | panic v => exact h
    | _ => exact h.elim

theorem wpAny_in {P : Program} {md : Region.Mode} {ops : Array Oper} {Q : Exit → Act → World → Prop} {l n : Nat} (hd : noDefer ops = true) (hlo : ¬ LetsOut Q) :
    ∀ (fuel : Nat) (listed : Array Bool) (a : Act) (w : World), wpAny P md ops Q fuel listed a w → wpAnyIn (Fence.wide.inRound l) n P md ops Q fuel listed a w
  | 0, _, _, _, h => h
  | fuel + 1, listed, a, w, h => ⟨h.1, fun i hi => by
    have h2 := h.2 i hi
    unfold wpOp at h2
    unfold wpOpIn
    cases ho : ops[i]? with
    | none =>
      rw [ho] at h2
      exact wpAny_in hd hlo fuel _ _ _ h2
    | some o =>
      rw [ho] at h2
      dsimp only at h2 ⊢
      have hod : ∀ c, o.op ≠ .defer c := by
        intro c hc
        have hmem : o ∈ ops := Array.mem_of_getElem? ho
        have := Array.all_eq_true_iff_forall_mem.1 hd o hmem
        rw [hc] at this
        cases this
      split
      · rename_i hw
        rw [if_pos hw] at h2
        rcases h2 with h2 | ⟨_, h2⟩
        · exact oper_in hod (fun a w => wpAny_in hd hlo fuel _ a w) h2
        · exact absurd h2 hlo
      · rename_i hw
        rw [if_neg hw] at h2
        exact ⟨fun _ _ => trivial, wpAny_in hd hlo fuel _ _ _ h2⟩⟩

theorem startIn_ {P : Program} {ops : Array Oper} {Q : Exit → Act → World → Prop} {S : World → Prop} {ds : List Nat} {id n l m : Nat} {a : Act} {w : World} (hd : noDefer ops = true) (hlo : ¬ LetsOut Q) (L : Array Bool) (hm : P.follows .mixedOrders = true) (hn : ops.size = n) (hl : Array.replicate n false = L) (hS : S w.drew)
    (h : S w.drew → wpAnyLast P .any ops Q S ds n L a w.drew) : (Code.region id ops true).wpIn (Fence.wide.inRound l) m P Q a w := by
  subst hn
  subst hl
  exact wpIn_region_any hm (wpAny_in hd hlo _ _ _ _ (wpAny_of_last _ _ _ _ (h hS)))

def noP (Q : Exit → Act → World → Prop) : Exit → Act → World → Prop
  | .panic _, _, _ => False
  | e, a, w => Q e a w
theorem wpIn_noP {F : Fence} {m : Nat} {P : Program} {c : Code} {Q : Exit → Act → World → Prop} {a : Act} {w : World} (h : c.wpIn F m P (noP Q) a w) : c.wpIn F m P Q a w :=
  wpIn_mono h fun e a w h => by cases e <;> first | exact h | exact h.elim

def Nc (B : Nat) (W : World) (k : Nat) : Prop := B ≤ k ∧ ∃ o : Obj, W.heap[k]? = some o ∧ o.isCells = false
theorem _root_.Go.Proofs.Ytdohfjidnbhfnaa.Mem.At.nc {W : World} {g : Nat} {cs : List Value} {T : TypeId} (h : At W g cs T) (B : Nat) : ¬ Nc B W g := by
  rintro ⟨_, o, h1, h2⟩
  rw [show W.heap[g]? = _ from h] at h1
  cases h1
  cases h2
theorem kpt_turn {B : Nat} {W W' : World} {row : Option Nat} (hg : W.grownBy W' row) (hr : ∀ r, row = some r → B ≤ r ∧ ∃ o : Obj, W.heap[r]? = some o ∧ o.isCells = false) : Kpt (Nc B W) W W' :=
  (Kpt.refl _ _).grown hg fun k e _ => hr k e
theorem keepsFrom_own {B base size n : Nat} {W W' : World} {e : TypeId} {v : Value} {xs : List Value} (ho : W.ownsRow base e size v n xs) (hg : W.grownBy W' v.ownBlock) : KeepsFrom B W W' :=
  ⟨hg.size, fun k o _ hk hc => (hg.block k (Array.getElem?_eq_some_iff.1 hk).1 fun he => by
    rcases ho.2 with ⟨rfl, _⟩ | ⟨g, cap, cur, rfl, _, hgb, _⟩
    · simp [Value.ownBlock] at he
    · obtain rfl : k = g := by simpa [Value.ownBlock] using he
      rw [hgb] at hk
      cases hk
      cases hc).trans hk⟩
theorem Below.putObj_new {w W : World} {D : Nat} {o o' : Obj} (h : Below w.heap.size w W) (hD : w.heap.size ≤ D) (hK : W.heap[D]? = some o) : Below w.heap.size w (W.putObj D o') :=
  h.grown (grownBy_putObj' W D o') h.size fun k e => by cases e; exact hD

end Go.Proofs.Ytdohfjidnbhfnaa.Rf

/- slices.Values of runs, slices.Backward of numbers: what they hand to a loop. -/
namespace Go.Proofs.Ytdohfjidnbhfnaa.Rf
open Go Go.RowKit Go.Proofs.Ytdohfjidnbhfnaa.Mem Go.Proofs.Ytdohfjidnbhfnaa.Sp
attribute [local go_sem] Oper.semAt_some
set_option linter.unusedSimpArgs false
set_option linter.unusedVariables false

def RdB (w : World) (b : Nat) (l : List (Int × Int)) : Prop :=
  ∃ cs, At w b cs 84 ∧ ∀ (j : Nat) (u v : Int), l[j]? = some (u, v) → cs[j * 2]? = some (.int .i32 u) ∧ cs[j * 2 + 1]? = some (.int .i32 v)
theorem RdB.kept {p : Nat → Prop} {w w' : World} {b : Nat} {l : List (Int × Int)} (h : RdB w b l) (hk : Kpt p w w') (hp : ¬ p b) : RdB w' b l := by
  obtain ⟨cs, h1, h2⟩ := h
  exact ⟨cs, h1.kept hk hp, h2⟩
theorem RdB.of_own {w : World} {base n c : Nat} {A : Option Addr} {l : List (Int × Int)} (h : w.ownsRow base 84 2 (.slice A n c) n (runs2 l)) : l = [] ∨ ∃ b, A = some ⟨b, 0, none⟩ ∧ base ≤ b ∧ b < w.heap.size ∧ RdB w b l := by
  rcases h.2 with ⟨h2, h3⟩ | ⟨g, cap, cur, h2, h3, h4, h5, h6, h7, h8⟩
  · left
    have := h.1
    rw [runs2_length] at this
    exact List.length_eq_zero_iff.1 (by omega)
  · right
    cases h2
    have hat : At w g cur.toList 84 := by unfold At; simpa using h4
    refine ⟨g, rfl, h3, hat.lt, cur.toList, hat, fun j u v hx => ?_⟩
    obtain ⟨r1, r2⟩ := runs2_at l j u v hx
    rw [← h8, List.getElem?_take] at r1 r2
    constructor
    · split at r1
      · exact r1
      · cases r1
    · split at r2
      · exact r2
      · cases r2

set_option maxHeartbeats 1000000 in
theorem vals_calls (a : Option Addr) (len cap : Nat) (w : World) :
    Calls Try.prog 52 #[.slice a len cap] w fun e w' => e = .returned (.func (.func 67) #[] #[.pointer (some ⟨w.heap.size, 0, none⟩)]) ∧ w' = w.alloc (.cells #[.slice a len cap] 86) := by
  go_enter Try.func52, Try.ntmps52
  go_wp2
  go_ret
  exact ⟨rfl, rfl⟩

set_option maxRecDepth 100000 in
set_option maxHeartbeats 2000000 in
theorem vals1_in (n l Bs cap : Nat) (A : Option Addr) (rs : List (Int × Int)) (p : Nat → Prop) (hlen : rs.length ≤ 1000000) (J Jx : List (Int × Int) → World → Prop) (W : World) (hJ : AbidesFrom W.heap.size J)
    (hY : ∀ pre x W1, J pre W1 → pre.length < rs.length → YieldAt Fence.wide (n - 1) Try.prog l #[.agg #[.int .i32 x.1, .int .i32 x.2]] W1 fun e W' =>
      (e = .returned (.bool true) ∧ J (pre ++ [x]) W' ∧ Kpt p W1 W') ∨ (e = .returned (.bool false) ∧ Jx (pre ++ [x]) W'))
    (hBs : At W Bs [.slice A rs.length cap] 86) (hI : rs = [] ∨ ∃ b, A = some ⟨b, 0, none⟩ ∧ ¬ p b ∧ RdB W b rs) (h0 : J [] W) :
    CallsIn Fence.wide n Try.prog 67 #[.func (.yield l) #[] #[], .pointer (some ⟨Bs, 0, none⟩)] W fun e W' => (∃ v, e = .returned v) ∧
      ((∃ ys, ys = rs ∧ J ys W') ∨ (∃ pre, pre <+: rs ∧ Jx pre W')) := by
  have c0 := hBs.cell 0 rfl
  refine callsIn_of_wp Try.func67 rfl trivial ?_ rfl
  simp only [Try.ntmps67, List.size_toArray, List.length_cons, List.length_nil, Nat.reduceAdd, Nat.reduceSub, Array.replicate_succ, Array.replicate_zero, List.push_toArray, List.append_toArray, List.nil_append, List.cons_append]
  obtain ⟨len, hl⟩ : ∃ len, rs.length = len := ⟨_, rfl⟩
  rw [hl] at c0 hlen
  have HL := Lib.hid hl
  clear hl
  gi_wp2
  gi_loopw [7] (fun i wr => ∃ k : Nat, k ≤ len ∧ i = .int .i64 k ∧ J (rs.take k) wr ∧ Kpt p W wr)
    (fun i _ => len - (intOf i).toNat)
  case atStart => exact ⟨0, Nat.zero_le _, rfl, by simpa using h0, Kpt.refl _ _⟩
  case round =>
    obtain ⟨k, hk, rfl, hJs, hnx⟩ := hrel
    have hl := HL.out
    by_cases hlt : k < len
    · obtain ⟨⟨u, v⟩, huv⟩ : ∃ r, rs[k]? = some r := ⟨_, List.getElem?_eq_getElem (by omega)⟩
      rcases hI with rfl | ⟨b, rfl, hpb, hrd⟩
      · simp at huv
      obtain ⟨cs, hat, hcs⟩ := hrd.kept hnx hpb
      obtain ⟨r1, r2⟩ := hcs k u v huv
      have c1 := hat.cell _ r1
      have c2 := hat.cell _ r2
      have hJa : J (rs.take k) (wr.alloc (.cells #[.int .i32 u, .int .i32 v] 84)) := hJ _ _ _ none hJs (World.grownBy_alloc wr _ none) (fun r e => by cases e)
      obtain ⟨fn, tmps, assign, body, hy, hR⟩ := hY _ (u, v) _ hJa (by rw [List.length_take]; omega)
      dsimp only at hy
      have hsn : rs.take (k + 1) = rs.take k ++ [(u, v)] := by rw [List.take_add_one, huv]; rfl
      have HSN := Lib.hid hsn
      have HUV := Lib.hid huv
      clear hsn huv r1 r2 hcs hl
      have i0 : (0 : Int) ≤ (k : Int) := by omega
      have i1 : (k : Int) < (len : Int) := by omega
      have i2 : (len : Int) ≤ 1000000 := by omega
      gi_wp2
      refine ⟨fun e => (by cases e), hR.mono ?_⟩
      rintro e W3 (⟨rfl, hJ3, hk3⟩ | ⟨rfl, hJx3⟩)
      · gi_wp2
        go_roundw
        case rel => exact ⟨k + 1, by omega, by simp, by rw [HSN.out]; exact hJ3, (hnx.alloc _).trans hk3⟩
        case measure => simp [intOf]; omega
      · gi_wp2
        refine bodyPost_ret (results_none rfl _ _ _) rfl ?_
        exact ⟨⟨_, rfl⟩, .inr ⟨_, by rw [← HSN.out]; exact List.take_prefix _ _, hJx3⟩⟩
    · obtain rfl : k = len := by omega
      rw [List.take_of_length_le (by omega)] at hJs
      clear hl
      gi_wp2
      go_end0
      exact ⟨⟨_, rfl⟩, .inl ⟨_, rfl, hJs⟩⟩

theorem vals_stops (n Bs cap : Nat) (A : Option Addr) (rs : List (Int × Int)) (p : Nat → Prop) (hlen : rs.length ≤ 1000000) (w : World) (hBs : At w Bs [.slice A rs.length cap] 86)
    (hI : rs = [] ∨ ∃ b, A = some ⟨b, 0, none⟩ ∧ ¬ p b ∧ RdB w b rs) :
    SeqStopsK Fence.wide n Try.prog 67 #[.pointer (some ⟨Bs, 0, none⟩)] (fun x : Int × Int => #[Value.agg #[.int .i32 x.1, .int .i32 x.2]]) (Kpt p) (fun ys => ys = rs) (fun pre => pre <+: rs) rs.length w :=
  fun l J Jx W hW hJ _ hY h0 => by
  refine vals1_in n l Bs cap A rs p hlen J Jx W hJ hY (hBs.below hW hBs.lt) ?_ h0
  rcases hI with h | ⟨b, h1, h2, h3⟩
  · exact .inl h
  · exact .inr ⟨b, h1, h2, h3.kept (Kpt.of_below (p := fun _ => False) hW) id⟩

def nextPost {α : Type} (B : Nat) (p : Nat → Prop) (I : List α → World → Prop) (xs : List α) (W : World) : Exit → Act → World → Prop
  | .normal, _, W' => KeepsFrom B W W' ∧ Kpt p W W' ∧ I xs W'
  | _, _, _ => False

theorem range_next {α : Type} {P : Program} {n : Nat} {g : Operand} {ps : Array Tmp} {assign body : Code} {Q : Exit → Act → World → Prop} {a : Act} {w : World} (h1 : 1 ≤ n) {gf : Nat} {lb : Array Value} (hg : a.eval g = .func (.func gf) #[] lb)
    (eg : ∀ args w, (callFunc gf args).run P w = .ok (.enter gf args) w) {encs : α → Array Value} {p : Nat → Prop} (hp : ∀ k, w.heap.size ≤ k → p k) {Nx : List α → α → Prop} {S : List α → Prop}
    (hseq : ∀ (l : Nat) (J : List α → World → Prop) (W : World), Below w.heap.size w W →
      (∀ pre x W1, J pre W1 → Nx pre x → YieldAt Fence.wide (n - 1 - 1) P l (encs x) W1 fun e W' => e = .returned (.bool true) ∧ J (pre ++ [x]) W' ∧ Kpt p W1 W') → J [] W →
      CallsIn Fence.wide (n - 1) P gf (#[.func (.yield l) #[] #[]] ++ lb) W fun e W' => (∃ v, e = .returned v) ∧ ∃ xs, S xs ∧ J xs W')
    (hps : ∀ x, (encs x).size = ps.size) (I : List α → World → Prop) (hI : OwnFrom w.heap.size I) (h0 : I [] w) (a₁ : α → Act)
    (hassign : ∀ (l : Nat) (x : α) (W : World) (K : Act → World → Prop), K (a₁ x) W → assign.wpIn (Fence.wide.inRound l) (n - 1 - 1) P (Exit.then K (fun _ _ _ => False)) { tmps := (ps.zip (encs x)).foldl (fun t (p, v) => t.setIfInBounds p v) a.tmps, defers := [] } W)
    (hbody : ∀ (l : Nat) (pre : List α) (x : α) (W : World), I pre W → Nx pre x → body.wpIn (Fence.wide.inRound l) (n - 1 - 1) P (nextPost w.heap.size p I (pre ++ [x]) W) (a₁ x) W)
    (hdone : ∀ (D : Nat) (xs : List α) (W : World), w.heap.size ≤ D → S xs → I xs W → W.heap[D]? = some (.deferred (some [])) → Q .normal { a with defers := { target := .collected D, args := #[] } :: a.defers } W) :
    (Code.rangeFunc g ps assign body).wpIn Fence.wide n P Q a w := by
  refine wpIn_rangeFunc fun fn hfn => ?_
  obtain ⟨D, hD⟩ : ∃ D, w.heap.size = D := ⟨_, rfl⟩
  let r (st : LoopState) : Loop := { state := st, pending := none, fn, tmps := a.tmps, params := ps, assign, body, defers := D }
  let W1 := (w.alloc (.deferred (some []))).alloc (.loop (r .ready))
  have hsz1 : W1.heap.size = D + 1 + 1 := by simp [W1, hD]
  have b1 : Below w.heap.size w W1 := ((Below.refl _ w).alloc (Nat.le_refl _) _).alloc (by simp) _
  have hrec1 : W1.heap[D + 1]? = some (.loop (r .ready)) := by
    have := World.alloc_heap_new (w.alloc (.deferred (some []))) (.loop (r .ready))
    rwa [World.size_alloc, hD] at this
  have hdef1 : W1.heap[D]? = some (.deferred (some [])) := by
    rw [← hD]
    exact (Below.heap_alloc _ _ _ (by simp)).trans (World.alloc_heap_new w _)
  rw [hD] at hI hp hdone hbody
  have inv : ∀ {xs : List α} {W : World} {k : Nat} {o : Obj} (o' : Obj), I xs W → D ≤ k → W.heap[k]? = some o → o.isCells = false → I xs (W.putObj k o') := fun o' h hk ho hc => hI.putObj o' h hk ho hc
  have kp : ∀ (W : World) (k : Nat) (o' : Obj), D ≤ k → Kpt p W (W.putObj k o') := fun W k o' hk => (Kpt.refl p W).grown (grownBy_putObj' W k o') fun j e _ => by cases e; exact hp _ hk
  refine ⟨D + 1, [{ target := .collected D, args := #[] }], W1, { target := .fn (.func gf) lb, args := #[.func (.yield (D + 1)) #[] #[]] }, W1, gf, #[.func (.yield (D + 1)) #[] #[]] ++ lb, W1, ?_, ?_, ?_, ?_, fun _ => h1, ?_⟩
  · have := run_enterLoop_outer (P := P) (w := w) fn a.tmps ps assign body
    rw [hD] at this
    exact this
  · simp only [resolve, hg]
    simp [go_sem]
  · intro _ _
    trivial
  · simp [invoke, go_sem, eg]
  refine (hseq (D + 1) (fun xs W => I xs W ∧ W.heap[D + 1]? = some (.loop (r .ready)) ∧ W.heap[D]? = some (.deferred (some []))) W1 b1 ?_ ⟨hI.alloc _ (hI.alloc _ h0), hrec1, hdef1⟩).mono ?_
  · rintro pre x W ⟨hi, hl, hk⟩ hx
    have hlt := (Array.getElem?_eq_some_iff.1 hl).1
    refine ⟨fn, _, assign, body, run_yield (P := P) (args := encs x) hl (hps x), roundIn_of_wpIn hfn (hassign _ x W _ ⟨_, run_beginRound hl rfl, ?_⟩)⟩
    have hl2 : (W.putObj (D + 1) (.loop (r .busy))).heap[D + 1]? = some (.loop (r .busy)) := World.putObj_heap_same hlt
    have hk2 : (W.putObj (D + 1) (.loop (r .busy))).heap[D]? = some (.deferred (some [])) := (World.putObj_heap_other (by omega)).trans hk
    refine wpIn_mono (hbody (D + 1) pre x _ (inv _ hi (by omega) hl rfl) hx) ?_
    intro e a3 W3 hpost
    cases e with
    | normal =>
      obtain ⟨k1, k2, k3⟩ := hpost
      have hl3 := k1.same _ _ (by omega) hl2 rfl
      have hk3 := k1.same _ _ (Nat.le_refl _) hk2 rfl
      have hlt3 := (Array.getElem?_eq_some_iff.1 hl3).1
      exact ⟨_, _, run_endRound (P := P) none hl3, rfl, ⟨inv _ k3 (by omega) hl3 rfl, World.putObj_heap_same hlt3, (World.putObj_heap_other (by omega)).trans hk3⟩, ((kp _ _ _ (by omega)).trans k2).trans (kp _ _ _ (by omega))⟩
    | _ => exact hpost.elim
  · rintro e W ⟨⟨v, rfl⟩, xs, hS, hi, hl, hk⟩
    exact ⟨none, _, run_endLoop (P := P) hl (by simp [r]), hdone D xs _ (Nat.le_refl _) hS (inv _ hi (by omega) hl rfl) ((World.putObj_heap_other (by omega)).trans hk)⟩

def bwd (zs : List Int) (q : Nat) : List (Nat × Int) := (List.range q).map fun t => (zs.length - 1 - t, zs.getD (zs.length - 1 - t) 0)
theorem bwd_succ (zs : List Int) (q : Nat) : bwd zs (q + 1) = bwd zs q ++ [(zs.length - 1 - q, zs.getD (zs.length - 1 - q) 0)] := by simp [bwd, List.range_succ]
def BackNext (zs : List Int) (pre : List (Nat × Int)) (x : Nat × Int) : Prop := ∃ q, q < zs.length ∧ pre = bwd zs q ∧ x.1 = zs.length - 1 - q ∧ zs[x.1]? = some x.2

set_option maxHeartbeats 1000000 in
theorem back_calls (a : Option Addr) (len cap : Nat) (w : World) :
    Calls Try.prog 46 #[.slice a len cap] w fun e w' => e = .returned (.func (.func 64) #[] #[.pointer (some ⟨w.heap.size, 0, none⟩)]) ∧ w' = w.alloc (.cells #[.slice a len cap] 24) := by
  go_enter Try.func46, Try.ntmps46
  go_wp2
  go_ret
  exact ⟨rfl, rfl⟩

def RdZ (w : World) (b : Nat) (zs : List Int) : Prop := ∃ cs, At w b cs 3 ∧ ∀ (j : Nat) (x : Int), zs[j]? = some x → cs[j]? = some (.int .i64 x)
theorem RdZ.kept {p : Nat → Prop} {w w' : World} {b : Nat} {l : List Int} (h : RdZ w b l) (hk : Kpt p w w') (hp : ¬ p b) : RdZ w' b l := by
  obtain ⟨cs, h1, h2⟩ := h
  exact ⟨cs, h1.kept hk hp, h2⟩

set_option maxRecDepth 100000 in
set_option maxHeartbeats 2000000 in
theorem back1_in (n l Bs cap : Nat) (A : Option Addr) (zs : List Int) (p : Nat → Prop) (hlen : zs.length ≤ 1000000) (J : List (Nat × Int) → World → Prop) (W : World)
    (hY : ∀ pre x W1, J pre W1 → BackNext zs pre x → YieldAt Fence.wide (n - 1) Try.prog l #[.int .i64 (x.1 : Int), .int .i64 x.2] W1 fun e W' => e = .returned (.bool true) ∧ J (pre ++ [x]) W' ∧ Kpt p W1 W')
    (hBs : At W Bs [.slice A zs.length cap] 24) (hpB : ¬ p Bs) (hI : zs = [] ∨ ∃ b, A = some ⟨b, 0, none⟩ ∧ ¬ p b ∧ RdZ W b zs) (h0 : J [] W) :
    CallsIn Fence.wide n Try.prog 64 #[.func (.yield l) #[] #[], .pointer (some ⟨Bs, 0, none⟩)] W fun e W' => (∃ v, e = .returned v) ∧ ∃ ys, ys = bwd zs zs.length ∧ J ys W' := by
  have c0 := hBs.cell 0 rfl
  refine callsIn_of_wp Try.func64 rfl trivial ?_ rfl
  simp only [Try.ntmps64, List.size_toArray, List.length_cons, List.length_nil, Nat.reduceAdd, Nat.reduceSub, Array.replicate_succ, Array.replicate_zero, List.push_toArray, List.append_toArray, List.nil_append, List.cons_append]
  obtain ⟨len, hl⟩ : ∃ len, zs.length = len := ⟨_, rfl⟩
  rw [hl] at c0 hlen hBs
  have i2 : (len : Int) ≤ 1000000 := by omega
  have i3 : (0 : Int) ≤ (len : Int) := by omega
  have HL := Lib.hid hl
  have HB := Lib.hid hBs
  clear hl hBs
  gi_wp2
  clear c0
  gi_loopw [3] (fun i wr => ∃ q : Nat, q ≤ len ∧ i = .int .i64 ((len : Int) - 1 - (q : Int)) ∧ J (bwd zs q) wr ∧ Kpt p W wr)
    (fun i _ => (intOf i + 1).toNat)
  case atStart => exact ⟨0, Nat.zero_le _, by simp, by simpa [bwd] using h0, Kpt.refl _ _⟩
  case round =>
    obtain ⟨q, hq, rfl, hJs, hnx⟩ := hrel
    have hl := HL.out
    by_cases hlt : q < len
    · obtain ⟨j, hj⟩ : ∃ j, len - 1 - q = j := ⟨_, rfl⟩
      obtain ⟨x, hx⟩ : ∃ x, zs[j]? = some x := ⟨_, List.getElem?_eq_getElem (by omega)⟩
      rcases hI with rfl | ⟨b, rfl, hpb, hrd⟩
      · simp at hx
      obtain ⟨cs, hat, hcs⟩ := hrd.kept hnx hpb
      have c1 := hat.cell _ (hcs j x hx)
      have c0 := (HB.out.kept hnx hpB).cell 0 rfl
      have ej : (len : Int) - 1 - (q : Int) = (j : Int) := by omega
      have hsn : bwd zs (q + 1) = bwd zs q ++ [(j, x)] := by
        rw [bwd_succ, hl, hj, List.getD_eq_getElem?_getD, hx]
        rfl
      obtain ⟨fn, tmps, assign, body, hy, hR⟩ := hY _ (j, x) _ hJs ⟨q, by omega, rfl, by rw [hl]; exact hj.symm, hx⟩
      dsimp only at hy
      rw [ej]
      have HX := Lib.hid (And.intro hsn (And.intro ej (And.intro hj hq)))
      clear hsn ej hj hx hcs hl
      have i0 : (0 : Int) ≤ (j : Int) := by omega
      have i1 : (j : Int) < (len : Int) := by have := HX.out.2.2.1; omega
      gi_wp2
      refine ⟨fun e => (by cases e), hR.mono ?_⟩
      rintro e W3 ⟨rfl, hJ3, hk3⟩
      gi_wp2
      go_roundw
      case rel => exact ⟨q + 1, by omega, by have := HX.out.2.1; rw [show (len : Int) - 1 - ((q + 1 : Nat) : Int) = (j : Int) - 1 by omega], by rw [HX.out.1]; exact hJ3, hnx.trans hk3⟩
      case measure => have := HX.out.2.1; simp [intOf]
    · obtain rfl : q = len := by omega
      have i0 : ((q : Int) - 1 - (q : Int)) = -1 := by omega
      rw [i0]
      clear i0; clear hl
      gi_wp2
      go_end0
      exact ⟨⟨_, rfl⟩, _, by rw [HL.out], hJs⟩

end Go.Proofs.Ytdohfjidnbhfnaa.Rf

/- cover: Grow. -/
namespace Go.Proofs.Ytdohfjidnbhfnaa.Cv
open Go Go.RowKit Go.Proofs.Ytdohfjidnbhfnaa.Mem Go.Proofs.Ytdohfjidnbhfnaa.Sp
attribute [local go_sem ↓] Go.wp_at_zero Go.wp_at_succ
set_option linter.unusedSimpArgs false
set_option linter.unusedVariables false

structure LabS (w : World) (nd : List Nd) (L : List (List (Int × Int))) : Prop where
  len : L.length = nd.length
  sets : ∀ (v : Nat) (x : Nd) (l : List (Int × Int)), nd[v]? = some x → L[v]? = some l → ∃ g, x.lab = some g ∧ SetAt w g l
  ok : ∀ l ∈ L, Ok l
  inj : ∀ (v v' : Nat) (x x' : Nd) (g : Nat), nd[v]? = some x → nd[v']? = some x' → x.lab = some g → x'.lab = some g → v = v'
def LabB (nd : List Nd) (k : Nat) : Prop := ∃ x ∈ nd, x.lab = some k
theorem LabS.set_at {w : World} {nd : List Nd} {L : List (List (Int × Int))} (h : LabS w nd L) {k : Nat} (hk : LabB nd k) : ∃ cs, At w k cs 108 := by
  obtain ⟨x, hx, he⟩ := hk
  obtain ⟨i, hi⟩ := List.getElem?_of_mem hx
  have hlt := (List.getElem?_eq_some_iff.1 hi).1
  have hlt2 : i < L.length := by rw [h.len]; exact hlt
  obtain ⟨g, h1, A, c, h2, _⟩ := h.sets i x L[i] hi (List.getElem?_eq_getElem hlt2)
  have : g = k := Option.some.inj (h1.symm.trans he)
  exact ⟨_, this ▸ h2⟩
theorem LabS.not {w : World} {nd : List Nd} {L : List (List (Int × Int))} (h : LabS w nd L) {b : Nat} {cs : List Value} {T : TypeId} (hb : At w b cs T) (hT : T ≠ 108) : ¬ LabB nd b := fun hk => by
  obtain ⟨cs', h'⟩ := h.set_at hk
  exact hb.not h' hT rfl
theorem LabS.below {w w' : World} {nd : List Nd} {L : List (List (Int × Int))} (h : LabS w nd L) (hb : Below w.heap.size w w') : LabS w' nd L :=
  ⟨h.len, fun v x l h1 h2 => by
    obtain ⟨g, e, hs⟩ := h.sets v x l h1 h2
    exact ⟨g, e, hs.below hb⟩, h.ok, h.inj⟩
theorem LabS.turn {w w' : World} {nd : List Nd} {L : List (List (Int × Int))} (h : LabS w nd L) {v g : Nat} {x : Nd} {l : List (Int × Int)} (hx : nd[v]? = some x) (hg : x.lab = some g) (hk : Kpt (· = g) w w') (hs : SetAt w' g l) (hl : Ok l) : LabS w' nd (L.set v l) := by
  refine ⟨by rw [List.length_set]; exact h.len, fun v' x' l' h1 h2 => ?_, fun l' hl' => ?_, h.inj⟩
  · by_cases hv : v' = v
    · subst hv
      rw [hx] at h1
      cases h1
      rw [List.getElem?_set_self (by rw [h.len]; exact (List.getElem?_eq_some_iff.1 hx).1)] at h2
      cases h2
      exact ⟨g, hg, hs⟩
    · rw [List.getElem?_set_ne (Ne.symm hv)] at h2
      obtain ⟨g', e, hs'⟩ := h.sets v' x' l' h1 h2
      have hne : g' ≠ g := fun e' => hv (h.inj v' v x' x g h1 hx (e' ▸ e) hg)
      obtain ⟨cs, hat⟩ := h.set_at ⟨x, List.mem_of_getElem? hx, hg⟩
      exact ⟨g', e, hs'.beside hk hat hne⟩
  · rcases List.mem_or_eq_of_mem_set hl' with h3 | h3
    · exact h.ok l' h3
    · exact h3 ▸ hl

section
end

end Go.Proofs.Ytdohfjidnbhfnaa.Cv
