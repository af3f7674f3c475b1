/- cover: what lies in memory while the labels are made. -/
import Derived.Test.YtdohfjidnbhfnaaGo25
import Derived.Test.YtdohfjidnbhfnaaGo26
import Derived.Test.YtdohfjidnbhfnaaGo27
import Derived.Test.YtdohfjidnbhfnaaGo20
namespace Go.Proofs.Ytdohfjidnbhfnaa.Cv
open Go Go.RowKit Go.Proofs.Ytdohfjidnbhfnaa.Mem Go.Proofs.Ytdohfjidnbhfnaa.Tj Go.Proofs.Ytdohfjidnbhfnaa.Scc Go.Proofs.Ytdohfjidnbhfnaa.Sp Go.Proofs.Ytdohfjidnbhfnaa.Rf
set_option linter.unusedVariables false

def outU (n : Nat) (arcs : List (Int × Int)) (j : Nat) : List (List Nat) := (List.range n).map fun u : Nat => ((arcs.take j).filter fun p => decide (p.1 = (u : Int))).map fun p => p.2.toNat
theorem outU_length (n : Nat) (arcs : List (Int × Int)) (j : Nat) : (outU n arcs j).length = n := by simp [outU]
theorem outU_at {n u : Nat} {arcs : List (Int × Int)} {j : Nat} (h : u < n) : (outU n arcs j)[u]? = some (((arcs.take j).filter fun p => decide (p.1 = (u : Int))).map fun p => p.2.toNat) := by
  unfold outU
  rw [List.getElem?_map, List.getElem?_range h]
  rfl
theorem outU_zero (n : Nat) (arcs : List (Int × Int)) : outU n arcs 0 = List.replicate n [] := by
  refine List.ext_getElem (by simp [outU]) fun j h1 h2 => by simp [outU]
theorem outU_short {n u j : Nat} {arcs : List (Int × Int)} {r : List Nat} (h : (outU n arcs j)[u]? = some r) : r.length ≤ j := by
  have hu : u < n := by rw [← outU_length n arcs j]; exact (List.getElem?_eq_some_iff.1 h).1
  rw [outU_at hu] at h
  obtain rfl := Option.some.inj h
  rw [List.length_map]
  exact Nat.le_trans (List.length_filter_le _ _) (List.length_take_le _ _)
theorem outU_succ {n u v j : Nat} {arcs : List (Int × Int)} {r : List Nat} (hj : arcs[j]? = some ((u : Int), (v : Int))) (hu : u < n) (hr : (outU n arcs j)[u]? = some r) : outU n arcs (j + 1) = (outU n arcs j).set u (r ++ [v]) := by
  refine List.ext_getElem? fun q => ?_
  rcases Nat.lt_or_ge q n with hq | hq
  · by_cases hqu : q = u
    · subst hqu
      rw [List.getElem?_set_self (by rw [outU_length]; exact hq), outU_at hq, List.take_add_one, hj]
      rw [outU_at hq] at hr
      obtain rfl := Option.some.inj hr
      rw [List.filter_append, List.map_append]
      simp
    · rw [List.getElem?_set_ne (Ne.symm hqu), outU_at hq, outU_at hq, List.take_add_one, hj, List.filter_append, List.map_append]
      have : ¬ ((u : Int) = (q : Int)) := by omega
      simp [this]
  · rw [List.getElem?_eq_none (by rw [outU_length]; exact hq), List.getElem?_eq_none (by rw [List.length_set, outU_length]; exact hq)]
theorem outU_mem {n u w : Nat} {arcs : List (Int × Int)} (hg : Good n arcs) (hu : u < n) {r : List Nat} (hr : (outU n arcs arcs.length)[u]? = some r) : w ∈ r ↔ EA arcs u w := by
  rw [outU_at hu, List.take_length] at hr
  obtain rfl := Option.some.inj hr
  rw [List.mem_map]
  constructor
  · rintro ⟨⟨a, b⟩, hp, rfl⟩
    obtain ⟨h1, h2⟩ := List.mem_filter.1 hp
    have := hg _ h1
    dsimp only at *
    have ha : a = (u : Int) := by simpa using h2
    subst ha
    unfold EA
    rw [show ((b.toNat : Nat) : Int) = b by omega]
    exact h1
  · intro h
    exact ⟨_, List.mem_filter.2 ⟨h, by simp⟩, by simp⟩

structure LI (n gc gn ga bc bk bo : Nat) (al : List Int) (out : List (List Nat)) (vals : List Value) (W : World) : Prop where
  hbc : At W bc [.pointer (some ⟨gc, 0, none⟩)] 23
  hgc : At W gc [.slice (some ⟨gn, 0, none⟩) n n, .slice (some ⟨ga, 0, none⟩) (n + 1) (n + 1)] 65
  hga : At W ga (ints al) 3
  hbk : At W bk [.slice (some ⟨bo, 0, none⟩) n n] 95
  hbo : At W bo vals 24
  rows : ∀ (u : Nat) (r : List Nat), out[u]? = some r → ∃ A c, vals[u]? = some (.slice A r.length c) ∧ (r = [] ∨ ∃ b cs, A = some ⟨b, 0, none⟩ ∧ At W b cs 3 ∧ ∀ (j x : Nat), r[j]? = some x → cs[j]? = some (.int .i64 (x : Int)))
  lo : out.length = n
  la : al.length = n + 1
structure LS (n : Nat) (arcs : List (Int × Int)) (pars : List Int) (B : Nat) (nd : List Nd) (S : Nat → Prop) (L : Nat → List (Int × Int)) (W : World) : Prop where
  sets : ∀ v, v < n → S v → ∃ x g, nd[v]? = some x ∧ x.lab = some g ∧ B ≤ g ∧ SetAt W g (L v) ∧ LabOk n arcs (postN pars) v (L v)
  inj : ∀ (v v' : Nat) (x x' : Nd) (g : Nat), v < n → v' < n → S v → S v' → nd[v]? = some x → nd[v']? = some x' → x.lab = some g → x'.lab = some g → v = v'
def NdOk (n : Nat) (pars : List Int) (nd : List Nd) : Prop := nd.length = n ∧ ∀ (v : Nat) (x : Nd), nd[v]? = some x → x.par = pars.getD v 0 ∧ x.post = (postN pars v : Int) ∧ x.low = (lowN pars v : Int)
section
variable {n gc gn ga bc bk bo B : Nat} {al : List Int} {out : List (List Nat)} {vals : List Value} {W W' : World} {arcs : List (Int × Int)} {pars : List Int} {nd : List Nd} {S : Nat → Prop} {L : Nat → List (Int × Int)} {p : Nat → Prop}
theorem LI.kept (h : LI n gc gn ga bc bk bo al out vals W) (hk : Kpt p W W') (hp : ∀ g cs T, At W g cs T → T ≠ 62 → T ≠ 108 → ¬ p g) : LI n gc gn ga bc bk bo al out vals W' := by
  refine ⟨h.hbc.kept hk (hp _ _ _ h.hbc (by decide) (by decide)), h.hgc.kept hk (hp _ _ _ h.hgc (by decide) (by decide)), h.hga.kept hk (hp _ _ _ h.hga (by decide) (by decide)), h.hbk.kept hk (hp _ _ _ h.hbk (by decide) (by decide)), h.hbo.kept hk (hp _ _ _ h.hbo (by decide) (by decide)), fun u r hr => ?_, h.lo, h.la⟩
  obtain ⟨A, c, h1, h2⟩ := h.rows u r hr
  refine ⟨A, c, h1, h2.imp id ?_⟩
  rintro ⟨b, cs, e1, e2, e3⟩
  exact ⟨b, cs, e1, e2.kept hk (hp _ _ _ e2 (by decide) (by decide)), e3⟩
theorem LI.beside (h : LI n gc gn ga bc bk bo al out vals W) {g : Nat} {cs : List Value} {T : TypeId} (hk : Kpt (· = g) W W') (hg : At W g cs T) (hT : T = 62 ∨ T = 108) : LI n gc gn ga bc bk bo al out vals W' :=
  h.kept hk fun b cs' T' hb h1 h2 e => by
    rcases hT with rfl | rfl
    · exact hb.ne hg h1 e
    · exact hb.ne hg h2 e
theorem LI.below (h : LI n gc gn ga bc bk bo al out vals W) (hb : Below W.heap.size W W') : LI n gc gn ga bc bk bo al out vals W' :=
  h.kept (Kpt.of_below (p := fun _ => False) hb) fun _ _ _ _ _ _ => id
theorem LI.turn (h : LI n gc gn ga bc bk bo al out vals W) (hk : Kpt (Nc B W) W W') : LI n gc gn ga bc bk bo al out vals W' :=
  h.kept hk fun _ _ _ hb _ _ => hb.nc _
theorem LS.kept (h : LS n arcs pars B nd S L W) (hk : Kpt p W W') (h1 : ∀ (v g : Nat) (x : Nd), v < n → S v → nd[v]? = some x → x.lab = some g → ¬ p g) (h2 : ∀ b cs, At W b cs 84 → ¬ p b) : LS n arcs pars B nd S L W' :=
  ⟨fun v hv hs => by
    obtain ⟨x, g, e1, e2, e3, e4, e5⟩ := h.sets v hv hs
    exact ⟨x, g, e1, e2, e3, e4.kept hk (h1 v g x hv hs e1 e2) h2, e5⟩, h.inj⟩
theorem SetAt.at {g : Nat} {l : List (Int × Int)} (h : SetAt W g l) : ∃ cs, At W g cs 108 := by
  obtain ⟨_, _, h, _⟩ := h
  exact ⟨_, h⟩
theorem SetAt.turn {g : Nat} {l : List (Int × Int)} (h : SetAt W g l) (hk : Kpt (Nc B W) W W') : SetAt W' g l := by
  obtain ⟨cs, hc⟩ := SetAt.at h
  exact h.kept hk (hc.nc _) fun _ _ hb => hb.nc _
theorem LS.turn {B' : Nat} (h : LS n arcs pars B nd S L W) (hk : Kpt (Nc B' W) W W') : LS n arcs pars B nd S L W' :=
  ⟨fun v hv hs => by
    obtain ⟨x, g, e1, e2, e3, e4, e5⟩ := h.sets v hv hs
    exact ⟨x, g, e1, e2, e3, SetAt.turn e4 hk, e5⟩, h.inj⟩
theorem LS.below (h : LS n arcs pars B nd S L W) (hb : Below W.heap.size W W') : LS n arcs pars B nd S L W' :=
  h.kept (Kpt.of_below (p := fun _ => False) hb) (fun _ _ _ _ _ _ _ => id) fun _ _ _ => id
theorem LS.beside (h : LS n arcs pars B nd S L W) {g : Nat} {cs : List Value} (hk : Kpt (· = g) W W') (hg : At W g cs 108) (hne : ∀ (v : Nat) (x : Nd), v < n → S v → nd[v]? = some x → x.lab ≠ some g) : LS n arcs pars B nd S L W' :=
  h.kept hk (fun v g' x hv hs hx hl e => hne v x hv hs hx (by rw [← e]; exact hl)) fun b cs' hb => hb.not hg (by decide)
theorem LS.node (h : LS n arcs pars B nd S L W) {cs : List Value} (hk : Kpt (· = gn) W W') (hg : At W gn cs 62) : LS n arcs pars B nd S L W' :=
  h.kept hk (fun v g' x hv hs hx hl e => by
    obtain ⟨x2, g2, e1, e2, e3, e4, e5⟩ := h.sets v hv hs
    obtain rfl : x = x2 := Option.some.inj (hx.symm.trans e1)
    obtain rfl : g' = g2 := Option.some.inj (hl.symm.trans e2)
    obtain ⟨cs', hc⟩ := SetAt.at e4
    exact hc.ne hg (by decide) e) fun b cs' hb => hb.not hg (by decide)
theorem NdOk.set (h : NdOk n pars nd) {v g : Nat} {x : Nd} (hx : nd[v]? = some x) : NdOk n pars (nd.set v { x with lab := some g }) := by
  refine ⟨by rw [List.length_set]; exact h.1, fun v' x' hx' => ?_⟩
  by_cases he : v' = v
  · subst he
    rw [List.getElem?_set_self (List.getElem?_eq_some_iff.1 hx).1] at hx'
    cases hx'
    exact h.2 _ x hx
  · rw [List.getElem?_set_ne (Ne.symm he)] at hx'
    exact h.2 v' x' hx'
theorem LS.other (h : LS n arcs pars B nd S L W) {v g : Nat} {x : Nd} (hx : nd[v]? = some x) (hv : ¬ S v) : LS n arcs pars B (nd.set v { x with lab := some g }) S L W := by
  have key : ∀ (u : Nat) (y : Nd), S u → (nd.set v { x with lab := some g })[u]? = some y → nd[u]? = some y := fun u y hu hy => by
    have : u ≠ v := fun e => hv (e ▸ hu)
    rwa [List.getElem?_set_ne (Ne.symm this)] at hy
  refine ⟨fun u hu hs => ?_, fun u u' y y' g' hu hu' hs hs' hy hy' hl hl' => h.inj u u' y y' g' hu hu' hs hs' (key u y hs hy) (key u' y' hs' hy') hl hl'⟩
  obtain ⟨y, g', e1, e2⟩ := h.sets u hu hs
  refine ⟨y, g', ?_, e2⟩
  have : u ≠ v := fun e => hv (e ▸ hs)
  rw [List.getElem?_set_ne (Ne.symm this)]
  exact e1
theorem LS.done (h : LS n arcs pars B nd S L W) {v g : Nat} {x : Nd} {l : List (Int × Int)} {S' : Nat → Prop} (hx : nd[v]? = some x) (hxl : x.lab = some g) (hg : B ≤ g) (hs : SetAt W g l) (hl : LabOk n arcs (postN pars) v l)
    (hne : ∀ (u : Nat) (y : Nd), u < n → S u → nd[u]? = some y → y.lab ≠ some g) (hv : ¬ S v) (hS : ∀ u, S' u ↔ S u ∨ u = v) : LS n arcs pars B nd S' (fun u => if u = v then l else L u) W := by
  refine ⟨fun u hu hs' => ?_, fun u u' y y' g' hu hu' h1 h2 hy hy' hl1 hl2 => ?_⟩
  · rcases (hS u).1 hs' with h1 | rfl
    · obtain ⟨y, g', e1, e2, e3, e4⟩ := h.sets u hu h1
      have : u ≠ v := fun e => hv (e ▸ h1)
      rw [if_neg this]
      exact ⟨y, g', e1, e2, e3, e4⟩
    · rw [if_pos rfl]
      exact ⟨x, g, hx, hxl, hg, hs, hl⟩
  · rcases (hS u).1 h1 with a1 | rfl <;> rcases (hS u').1 h2 with a2 | rfl
    · exact h.inj u u' y y' g' hu hu' a1 a2 hy hy' hl1 hl2
    · exfalso
      obtain rfl : y' = x := Option.some.inj (hy'.symm.trans hx)
      exact hne u y hu a1 hy (by rw [hl1, ← hl2, hxl])
    · exfalso
      obtain rfl : y = x := Option.some.inj (hy.symm.trans hx)
      exact hne u' y' hu' a2 hy' (by rw [hl2, ← hl1, hxl])
    · rfl
end

theorem RdZ.of_own {w : World} {base n c : Nat} {A : Option Addr} {l : List Int} (h : w.ownsRow base 3 1 (.slice A n c) n (ints l)) : l = [] ∨ ∃ b, A = some ⟨b, 0, none⟩ ∧ base ≤ b ∧ b < w.heap.size ∧ RdZ w b l := by
  rcases h.2 with ⟨h2, h3⟩ | ⟨g, cap, cur, h2, h3, h4, h5, h6, h7, h8⟩
  · left
    have := h.1
    rw [ints_length] at this
    exact List.length_eq_zero_iff.1 (by omega)
  · right
    cases h2
    have hat : At w g cur.toList 3 := by unfold At; simpa using h4
    refine ⟨g, rfl, h3, hat.lt, cur.toList, hat, fun j x hx => ?_⟩
    have r1 := Mem.ints_at l hx
    rw [← h8, List.getElem?_take] at r1
    split at r1
    · exact r1
    · cases r1

def Came (zs : List Int) (q v : Nat) : Prop := ∃ x ∈ bwd zs q, x.2 = (v : Int)
section
variable {n : Nat} {arcs : List (Int × Int)} {F : List Nat}
def castF (F : List Nat) : List Int := F.map fun i : Nat => (i : Int)
theorem castF_length (F : List Nat) : (castF F).length = F.length := by simp [castF]
theorem castF_at {i v : Nat} (h : F[i]? = some v) : (castF F)[i]? = some (v : Int) := by
  unfold castF
  rw [List.getElem?_map, h]
  rfl
theorem castF_of {i : Nat} {z : Int} (h : (castF F)[i]? = some z) : ∃ v : Nat, F[i]? = some v ∧ z = (v : Int) := by
  unfold castF at h
  rw [List.getElem?_map] at h
  cases hv : F[i]? with
  | none => rw [hv] at h; cases h
  | some v => rw [hv] at h; exact ⟨v, rfl, (Option.some.inj h).symm⟩
theorem came_iff (q v : Nat) (hq : q ≤ F.length) : Came (castF F) q v ↔ ∃ i, F.length - q ≤ i ∧ F[i]? = some v := by
  unfold Came bwd
  constructor
  · rintro ⟨x, hx, he⟩
    obtain ⟨t, ht, rfl⟩ := List.mem_map.1 hx
    rw [List.mem_range] at ht
    rw [castF_length] at he
    dsimp only at he
    have hlt : F.length - 1 - t < F.length := by omega
    rw [List.getD_eq_getElem?_getD, castF_at (List.getElem?_eq_getElem hlt)] at he
    refine ⟨F.length - 1 - t, by omega, ?_⟩
    rw [List.getElem?_eq_getElem hlt]
    congr 1
    have h2 : ((F[F.length - 1 - t] : Nat) : Int) = (v : Int) := he
    omega
  · rintro ⟨i, hi, he⟩
    have hlt := (List.getElem?_eq_some_iff.1 he).1
    refine ⟨(i, (v : Int)), List.mem_map.2 ⟨F.length - 1 - i, List.mem_range.2 (by omega), ?_⟩, rfl⟩
    rw [castF_length, show F.length - 1 - (F.length - 1 - i) = i by omega, List.getD_eq_getElem?_getD, castF_at he]
    rfl
theorem came_not (h : Top n arcs F) {q v : Nat} (hq : q < F.length) (hv : F[F.length - 1 - q]? = some v) : ¬ Came (castF F) q v := by
  rw [came_iff q v (by omega)]
  rintro ⟨i, hi, he⟩
  obtain ⟨h1, h2⟩ := List.getElem?_eq_some_iff.1 he
  obtain ⟨h3, h4⟩ := List.getElem?_eq_some_iff.1 hv
  have := nodup_idx h.nodup h1 h3 (by rw [h2, h4])
  omega
theorem came_on (h : Top n arcs F) (hg : Good n arcs) {q v w : Nat} (hq : q < F.length) (hv : F[F.length - 1 - q]? = some v) (he : EA arcs v w) : Came (castF F) q w := by
  rw [came_iff _ _ (by omega)]
  obtain ⟨i, hi⟩ := List.getElem?_of_mem (h.all w (hg.lt he).2)
  have := h.on _ _ v w hv hi he
  exact ⟨i, by omega, hi⟩
theorem came_all (h : Top n arcs F) {v : Nat} (hv : v < n) : Came (castF F) F.length v := by
  rw [came_iff _ _ (Nat.le_refl _)]
  obtain ⟨i, hi⟩ := List.getElem?_of_mem (h.all v hv)
  exact ⟨i, by omega, hi⟩
end

end Go.Proofs.Ytdohfjidnbhfnaa.Cv

/- Rows of numbers that lie apart, each its own; a list of their slices beside them. -/
namespace Go.Proofs.Ytdohfjidnbhfnaa.Lw
open Go Go.RowKit Go.Proofs.Ytdohfjidnbhfnaa.Mem Go.Proofs.Ytdohfjidnbhfnaa.Sl Go.Proofs.Ytdohfjidnbhfnaa.Scc Go.Proofs.Ytdohfjidnbhfnaa.Tj Go.Proofs.YtdohfjidnbhfnaaW.PrintWords Go.Proofs.YtdohfjidnbhfnaaW.PrintLast
set_option linter.unusedSimpArgs false
set_option linter.unusedVariables false

structure Rz (w : World) (base : Nat) (vals : List Value) (ls : List (List Int)) : Prop where
  ln : vals.length = ls.length
  own : ∀ (i : Nat) (v : Value) (r : List Int), vals[i]? = some v → ls[i]? = some r → w.ownsRow base 3 1 v r.length (ints r)
  apart : ∀ (i j : Nat) (v u : Value), i ≠ j → vals[i]? = some v → vals[j]? = some u → v.ownBlock = none ∨ v.ownBlock ≠ u.ownBlock

theorem own_types {w : World} {b1 b2 : Nat} {e1 e2 : TypeId} {s1 s2 n1 n2 : Nat} {v1 v2 : Value} {x1 x2 : List Value} (h1 : w.ownsRow b1 e1 s1 v1 n1 x1) (h2 : w.ownsRow b2 e2 s2 v2 n2 x2) (hne : e1 ≠ e2) : v1.ownBlock = none ∨ v1.ownBlock ≠ v2.ownBlock := by
  rcases h1.2 with ⟨rfl, _⟩ | ⟨g, cap, cur, rfl, _, hg, _⟩
  · exact .inl rfl
  · right
    intro he
    rcases h2.2 with ⟨rfl, _⟩ | ⟨g2, cap2, cur2, rfl, _, hg2, _⟩
    · simp [Value.ownBlock] at he
    · simp only [Value.ownBlock, Option.some.injEq] at he
      subst he
      rw [hg] at hg2
      cases hg2
      exact hne rfl

section
variable {w w' : World} {base : Nat} {vals : List Value} {ls : List (List Int)}
theorem Rz.below (h : Rz w base vals ls) (hb : Below w.heap.size w w') : Rz w' base vals ls := ⟨h.ln, fun i v r h1 h2 => own_below (h.own i v r h1 h2) hb, h.apart⟩
theorem Rz.mono {base' : Nat} (h : Rz w base vals ls) (hb : base' ≤ base) : Rz w base' vals ls := ⟨h.ln, fun i v r h1 h2 => own_mono (h.own i v r h1 h2) hb, h.apart⟩
theorem Rz.nil : Rz w base [] [] := ⟨rfl, fun i v r h => by simp at h, fun i j v u _ h => by simp at h⟩

theorem Rz.snoc {B : Nat} {v : Value} {r : List Int} (h : Rz w base vals ls) (hb : Below w.heap.size w w') (hB : w.heap.size ≤ B) (hbase : base ≤ w.heap.size) (ho : w'.ownsRow B 3 1 v r.length (ints r)) : Rz w' base (vals ++ [v]) (ls ++ [r]) := by
  have h' := h.below hb
  have hold : ∀ (i : Nat) (u : Value), vals[i]? = some u → u.ownBlock = none ∨ (u.ownBlock ≠ v.ownBlock ∧ v.ownBlock ≠ u.ownBlock) := by
    intro i u hu
    cases hk : u.ownBlock with
    | none => exact .inl rfl
    | some k =>
      right
      have hi : i < ls.length := by rw [← h.ln]; exact (List.getElem?_eq_some_iff.1 hu).1
      have := ((h.own i u _ hu (List.getElem?_eq_getElem hi)).lt k hk).2
      constructor <;> intro he
      · have := (ho.lt k he.symm).1; omega
      · have := (ho.lt k he).1; omega
  refine ⟨by simp [h.ln], fun i u r' h1 h2 => ?_, fun i j u u' hne h1 h2 => ?_⟩
  · rcases Nat.lt_or_ge i vals.length with hi | hi
    · rw [List.getElem?_append_left hi] at h1
      rw [List.getElem?_append_left (by rw [← h.ln]; exact hi)] at h2
      exact h'.own i u r' h1 h2
    · rw [List.getElem?_append_right hi] at h1
      rw [List.getElem?_append_right (by rw [← h.ln]; exact hi), ← h.ln] at h2
      have hi0 : i - vals.length = 0 := by
        have := (List.getElem?_eq_some_iff.1 h1).1
        simp at this
        omega
      rw [hi0] at h1 h2
      cases h1
      cases h2
      exact own_mono ho (by omega)
  · rcases Nat.lt_or_ge i vals.length with hi | hi <;> rcases Nat.lt_or_ge j vals.length with hj | hj
    · rw [List.getElem?_append_left hi] at h1
      rw [List.getElem?_append_left hj] at h2
      exact h.apart i j u u' hne h1 h2
    · rw [List.getElem?_append_left hi] at h1
      rw [List.getElem?_append_right hj] at h2
      have hj0 : j - vals.length = 0 := by
        have := (List.getElem?_eq_some_iff.1 h2).1
        simp at this
        omega
      rw [hj0] at h2
      cases h2
      exact (hold i u h1).imp id And.left
    · rw [List.getElem?_append_right hi] at h1
      rw [List.getElem?_append_left hj] at h2
      have hi0 : i - vals.length = 0 := by
        have := (List.getElem?_eq_some_iff.1 h1).1
        simp at this
        omega
      rw [hi0] at h1
      cases h1
      rcases hold j u' h2 with hn | hn
      · cases hv : v.ownBlock with
        | none => exact .inl rfl
        | some k => right; rw [hn]; simp
      · exact .inr hn.2
    · have e1 := (List.getElem?_eq_some_iff.1 h1).1
      have e2 := (List.getElem?_eq_some_iff.1 h2).1
      simp at e1 e2
      omega

theorem Rz.turn {i : Nat} {v v' : Value} {r' : List Int} (h : Rz w base vals ls) (hv : vals[i]? = some v) (hg : w.grownBy w' v.ownBlock) (ho : w'.ownsRow base 3 1 v' r'.length (ints r')) (hat : v'.ownBlock = v.ownBlock ∨ v'.ownBlock = some w.heap.size) : Rz w' base (vals.set i v') (ls.set i r') := by
  have hi : i < vals.length := (List.getElem?_eq_some_iff.1 hv).1
  have hil : i < ls.length := by rw [← h.ln]; exact hi
  refine ⟨by simp [h.ln], fun j u r h1 h2 => ?_, fun j k u u' hne h1 h2 => ?_⟩
  · by_cases hji : j = i
    · subst hji
      rw [List.getElem?_set_self hi] at h1
      rw [List.getElem?_set_self hil] at h2
      cases h1
      cases h2
      exact ho
    · rw [List.getElem?_set_ne (Ne.symm hji)] at h1 h2
      exact (h.own j u r h1 h2).kept hg (h.apart j i u v hji h1 hv)
  · have key : ∀ (j : Nat) (u : Value), j ≠ i → vals[j]? = some u → (u.ownBlock = none ∨ u.ownBlock ≠ v'.ownBlock) ∧ (v'.ownBlock = none ∨ v'.ownBlock ≠ u.ownBlock) := by
      intro j u hj hu
      have hjl : j < ls.length := by rw [← h.ln]; exact (List.getElem?_eq_some_iff.1 hu).1
      have ho2 := h.own j u _ hu (List.getElem?_eq_getElem hjl)
      rcases hat with hat | hat
      · rw [hat]
        exact ⟨h.apart j i u v hj hu hv, h.apart i j v u (Ne.symm hj) hv hu⟩
      · rw [hat]
        have hlt : ∀ m, u.ownBlock = some m → m < w.heap.size := fun m hm => (ho2.lt m hm).2
        refine ⟨?_, ?_⟩
        · cases hu' : u.ownBlock with
          | none => exact .inl rfl
          | some m => right; intro he; cases he; have := hlt _ hu'; omega
        · right
          intro he
          have := hlt _ he.symm
          omega
    by_cases hji : j = i
    · subst hji
      rw [List.getElem?_set_self hi] at h1
      cases h1
      rw [List.getElem?_set_ne hne] at h2
      exact (key k u' (Ne.symm hne) h2).2
    · rw [List.getElem?_set_ne (Ne.symm hji)] at h1
      by_cases hki : k = i
      · subst hki
        rw [List.getElem?_set_self hi] at h2
        cases h2
        exact (key j u hji h1).1
      · rw [List.getElem?_set_ne (Ne.symm hki)] at h2
        exact h.apart j k u u' hne h1 h2

theorem Rz.other {b n s : Nat} {T : TypeId} {v : Value} {xs : List Value} (h : Rz w base vals ls) (ho : w.ownsRow b T s v n xs) (hne : 3 ≠ T) (hg : w.grownBy w' v.ownBlock) : Rz w' base vals ls :=
  ⟨h.ln, fun i u r h1 h2 => (h.own i u r h1 h2).kept hg (own_types (h.own i u r h1 h2) ho hne), h.apart⟩

theorem Two.other {w0 : World} {T1 T2 : TypeId} {s1 s2 n1 n2 : Nat} {v1 v2 : Value} {x1 x2 : List Value} {b s n : Nat} {v : Value} {xs : List Value} (h : Two w0 T1 s1 v1 n1 x1 T2 s2 v2 n2 x2 w) (ho : w.ownsRow b 3 s v n xs) (hb : w0.heap.size ≤ b) (hn1 : T1 ≠ 3) (hn2 : T2 ≠ 3) (hg : w.grownBy w' v.ownBlock) :
    Two w0 T1 s1 v1 n1 x1 T2 s2 v2 n2 x2 w' :=
  ⟨h.r1.kept hg (own_types h.r1 ho hn1), h.r2.kept hg (own_types h.r2 ho hn2), h.ne, h.b.grown hg h.b.size fun k hk => Nat.le_trans hb (ho.lt k hk).1⟩
theorem One.other {w0 : World} {T1 : TypeId} {s1 n1 : Nat} {v1 : Value} {x1 : List Value} {b s n : Nat} {v : Value} {xs : List Value} (h : One w0 T1 s1 v1 n1 x1 w) (ho : w.ownsRow b 3 s v n xs) (hb : w0.heap.size ≤ b) (hn1 : T1 ≠ 3) (hg : w.grownBy w' v.ownBlock) : One w0 T1 s1 v1 n1 x1 w' :=
  ⟨h.r.kept hg (own_types h.r ho hn1), h.b.grown hg h.b.size fun k hk => Nat.le_trans hb (ho.lt k hk).1⟩

theorem Rz.rd (h : Rz w base vals ls) {i : Nat} {v : Value} {r : List Int} (h1 : vals[i]? = some v) (h2 : ls[i]? = some r) : ∃ A c, v = .slice A r.length c ∧ RdI w A r := by
  have ho := h.own i v r h1 h2
  obtain ⟨A, c, rfl⟩ := own_slice ho
  exact ⟨A, c, rfl, (RdI.of_own ho).1⟩
end

theorem order_own_row (w : World) (Av Aa : Option Addr) (cv ca : Nat) (l : List Int) (arcs : List (Int × Int)) (hv : RdI w Av l) (ha : RdA w Aa arcs) (hn : l.length ≤ 999999) (hm : arcs.length ≤ 1000000)
    (k code : Nat) (ts : List Int) (hR : orderS l arcs (sorted l) k = some (code, ts)) (hz : code ≠ 0 → ts = []) :
    Calls Try.prog 45 #[.slice Av l.length cv, .slice Aa arcs.length ca] w fun e w' => ∃ A c, e = .returned (.tuple #[.slice A ts.length c, .int .i64 (code : Int)]) ∧ w'.ownsRow w.heap.size 3 1 (.slice A ts.length c) ts.length (ints ts) ∧ Below w.heap.size w w' := by
  refine (order_calls w Av Aa cv ca _ _ l arcs ts hv ha (by omega) hm hR).mono ?_
  rintro e w' ⟨hb, h1, h2⟩
  by_cases hc : code = 0
  · obtain ⟨v, he, ho⟩ := h2 hc
    obtain ⟨A, c, rfl⟩ := own_slice ho
    subst hc
    exact ⟨A, c, he, ho, hb⟩
  · rw [hz hc]
    exact ⟨none, 0, h1 hc, World.ownsRow_nil _ _ _ _, hb⟩

structure Mk (N i : Nat) (cur : List (List Int)) : Prop where
  len : cur.length = N
  old : ∀ (j : Nat) (r : List Int), j < i → cur[j]? = some r → ∀ x ∈ r, x = -1000 - (j : Int)
  small : ∀ r ∈ cur, r.length ≤ 60
structure MkR (N i n k : Nat) (cur : List (List Int)) : Prop where
  m : Mk N i cur
  row : ∃ r, cur[i]? = some r ∧ r.length = n ∧ ∀ (t : Nat) (x : Int), t < k → r[t]? = some x → x = -1000 - (i : Int)
theorem Mk.start {N i : Nat} {cur : List (List Int)} {r : List Int} (h : Mk N i cur) (hr : cur[i]? = some r) : MkR N i r.length 0 cur := ⟨h, r, hr, rfl, fun t x ht => by omega⟩
theorem MkR.stop {N i n : Nat} {cur : List (List Int)} (h : MkR N i n n cur) : Mk N (i + 1) cur := by
  refine ⟨h.m.len, fun j r hj hr x hx => ?_, h.m.small⟩
  rcases Nat.lt_or_ge j i with hji | hji
  · exact h.m.old j r hji hr x hx
  · obtain rfl : j = i := by omega
    obtain ⟨r', h1, h2, h3⟩ := h.row
    rw [hr] at h1
    cases h1
    obtain ⟨t, ht, rfl⟩ := List.getElem_of_mem hx
    exact h3 t _ (by omega) (List.getElem?_eq_getElem ht)
theorem MkR.set {N i n k : Nat} {cur : List (List Int)} {r : List Int} (h : MkR N i n k cur) (hr : cur[i]? = some r) (hk : k < n) : MkR N i n (k + 1) (cur.set i (r.set k (-1000 - (i : Int)))) := by
  have hi : i < cur.length := (List.getElem?_eq_some_iff.1 hr).1
  obtain ⟨r', h1, h2, h3⟩ := h.row
  rw [hr] at h1
  cases h1
  refine ⟨⟨by rw [List.length_set]; exact h.m.len, fun j s hj hs => ?_, fun s hs => ?_⟩, _, List.getElem?_set_self hi, by rw [List.length_set]; exact h2, fun t x ht hx => ?_⟩
  · rw [List.getElem?_set_ne (by omega)] at hs
    exact h.m.old j s hj hs
  · rcases List.mem_or_eq_of_mem_set hs with h4 | rfl
    · exact h.m.small s h4
    · rw [List.length_set]
      exact h.m.small r (List.mem_of_getElem? hr)
  · by_cases htk : t = k
    · subst htk
      rw [List.getElem?_set_self (by omega)] at hx
      cases hx
      rfl
    · rw [List.getElem?_set_ne (Ne.symm htk)] at hx
      exact h3 t x (by omega) hx

end Go.Proofs.Ytdohfjidnbhfnaa.Lw
