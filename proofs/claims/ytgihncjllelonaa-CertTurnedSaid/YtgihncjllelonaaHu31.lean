/- A built tree's distances are accepted by cert; turned ones are refused: plain. -/
import Derived.Test.YtgihncjllelonaaHu30
import Derived.Test.YtgihncjllelonaaHu28
import Derived.Test.YtgihncjllelonaaHu29
import Derived.Test.YtgihncjllelonaaHu27
import Derived.Test.YtgihncjllelonaaHu12
import Derived.Laws.BitsLemmas
namespace Go.Proofs.Ytgihncjllelonaa.Ce
open Go Go.Proofs.Ytgihncjllelonaa.Tb Go.Proofs.Ytgihncjllelonaa.Wt Go.Proofs.Ytgihncjllelonaa.Sl
set_option linter.unusedSimpArgs false
set_option linter.unusedVariables false

def dsAt (Rt : Int → Option (Nat × Int)) (v : Int) : Ds := match Rt v with
  | none => (v, true, 0, 0)
  | some r => (v, false, r.1, r.2)
def dsOf (sv : List Int) (Rt : Int → Option (Nat × Int)) : List Ds := sv.map (dsAt Rt)
theorem dsAt_key (Rt : Int → Option (Nat × Int)) (v : Int) : (dsAt Rt v).1 = v := by unfold dsAt; cases Rt v <;> rfl
theorem dsAt_some {Rt : Int → Option (Nat × Int)} {v : Int} {r : Nat × Int} (h : Rt v = some r) : dsAt Rt v = (v, false, r.1, r.2) := by unfold dsAt; rw [h]
theorem dsAt_none {Rt : Int → Option (Nat × Int)} {v : Int} (h : Rt v = none) : dsAt Rt v = (v, true, 0, 0) := by unfold dsAt; rw [h]
theorem dsM_of {l : List Ds} (hn : (l.map (·.1)).Nodup) {x : Ds} (hx : x ∈ l) : dsM l x.1 = some x := by
  unfold dsM
  cases hf : l.reverse.find? fun p => decide (p.1 = x.1) with
  | none =>
    have := List.find?_eq_none.1 hf x (List.mem_reverse.2 hx)
    simp at this
  | some q =>
    have h1 := List.mem_reverse.1 (List.mem_of_find?_eq_some hf)
    have h2 : q.1 = x.1 := by simpa using List.find?_some hf
    obtain ⟨j, hj, rfl⟩ := List.getElem_of_mem h1
    obtain ⟨i, hi, rfl⟩ := List.getElem_of_mem hx
    have hij : j = i := by
      have hd := List.pairwise_iff_getElem.1 hn
      rcases Nat.lt_trichotomy i j with hlt | e | hlt
      · have := hd i j (by simpa using hi) (by simpa using hj) hlt
        simp only [List.getElem_map] at this
        exact absurd h2.symm this
      · exact e.symm
      · have := hd j i (by simpa using hj) (by simpa using hi) hlt
        simp only [List.getElem_map] at this
        exact absurd h2 this
    subst hij
    rfl
theorem dD_of {l : List Ds} (hn : (l.map (·.1)).Nodup) {x : Ds} (hx : x ∈ l) : dD l x.1 = x := by
  unfold dD
  rw [dsM_of hn hx]
  rfl
theorem find_of {es : List Ed} (hn : (es.map (·.1)).Nodup) {x : Ed} (hx : x ∈ es) : es.find? (fun p => decide (p.1 = x.1)) = some x := by
  have h1 := edF_some hn hx
  cases hf : es.find? fun p => decide (p.1 = x.1) with
  | none =>
    have := List.find?_eq_none.1 hf x hx
    simp at this
  | some q =>
    have h1 := List.mem_of_find?_eq_some hf
    have h2 : q.1 = x.1 := by simpa using List.find?_some hf
    obtain ⟨j, hj, rfl⟩ := List.getElem_of_mem h1
    obtain ⟨i, hi, rfl⟩ := List.getElem_of_mem hx
    have hij : j = i := by
      have hd := List.pairwise_iff_getElem.1 hn
      rcases Nat.lt_trichotomy i j with hlt | e | hlt
      · have := hd i j (by simpa using hi) (by simpa using hj) hlt
        simp only [List.getElem_map] at this
        exact absurd h2.symm this
      · exact e.symm
      · have := hd j i (by simpa using hj) (by simpa using hi) hlt
        simp only [List.getElem_map] at this
        exact absurd h2 this
    subst hij
    rfl
theorem find_no {es : List Ed} (h1 : ∀ p ∈ es, 1 ≤ p.1) {e : Int} (he : e ≤ 0) : es.find? (fun p => decide (p.1 = e)) = none := by
  rw [List.find?_eq_none]
  intro x hx
  have := h1 x hx
  simp
  omega
section
variable {vs : List Int} {es : List Ed} {s : Int} {sv : List Int} {Rt : Int → Option (Nat × Int)}
theorem dsOf_keys (sv : List Int) (Rt : Int → Option (Nat × Int)) : (dsOf sv Rt).map (·.1) = sv := by
  unfold dsOf
  rw [List.map_map]
  conv => rhs; rw [← List.map_id sv]
  exact List.map_congr_left fun v _ => dsAt_key Rt v
theorem dsOf_dD (hn : sv.Nodup) {v : Int} (hv : v ∈ sv) : dsM (dsOf sv Rt) v = some (dsAt Rt v) ∧ dD (dsOf sv Rt) v = dsAt Rt v := by
  have hx : dsAt Rt v ∈ dsOf sv Rt := List.mem_map.2 ⟨v, hv, rfl⟩
  have hk : ((dsOf sv Rt).map (·.1)).Nodup := by rw [dsOf_keys]; exact hn
  have h1 := dsM_of hk hx
  have h2 := dD_of hk hx
  rw [dsAt_key] at h1 h2
  exact ⟨h1, h2⟩
theorem way_some (hS : Spots es s sv Rt) (hn : sv.Nodup) (hE : (es.map (·.1)).Nodup) {G : List Int} {n : Nat} (hs : s ∈ G) {D : List Int} (hD : ∀ v, Rt v ≠ none → v ∈ D) (hl : ∀ v r, Rt v = some r → v ≠ s → ∃ u b cu eu, (r.2, u, v, b) ∈ es ∧ u ≠ v ∧ u ∈ D ∧ Rt u = some (cu, eu) ∧ r.1 = add32 cu b ∧ D.idxOf u < D.idxOf v) :
    ∀ (k : Nat) (u : Int) (way : List Int) (r : Nat × Int), Rt u = some r → D.idxOf u < k → way.length + D.idxOf u ≤ n → ∃ W, wayS (dsOf sv Rt) es G n k u way = some W
  | 0, _, _, _, _, h, _ => by omega
  | k + 1, u, way, r, hu, hk, hw => by
    rw [wayS]
    split
    · exact ⟨_, rfl⟩
    · rename_i hno
      have hus : u ≠ s := fun e => hno (.inl (e ▸ hs))
      obtain ⟨u', b, cu, eu, g1, _, _, g4, _, g6⟩ := hl u r hu hus
      rw [if_neg (by omega)]
      have hnx : nextU (dsOf sv Rt) es u = u' := by
        unfold nextU eD
        rw [(dsOf_dD hn (hS.dom u (by rw [hu]; simp))).2, dsAt_some hu]
        dsimp only
        rw [find_of hE g1]
        rfl
      rw [hnx]
      exact way_some hS hn hE hs hD hl k u' (way ++ [u]) _ g4 (by omega) (by rw [List.length_append, List.length_singleton]; omega)
theorem back_some (hS : Spots es s sv Rt) (hn : sv.Nodup) (hE : (es.map (·.1)).Nodup) {n : Nat} (hsn : sv.length ≤ n) : ∀ (l G : List Int), (∀ v ∈ l, v ∈ sv) → s ∈ G → backS (dsOf sv Rt) es n l G = true
  | [], _, _, _ => rfl
  | v :: l, G, hl, hs => by
    obtain ⟨D, d1, d2, d3, d4⟩ := hS.last
    have hdl : D.length ≤ sv.length := nodup_sub d1 d2
    have hw : ∃ W, wayS (dsOf sv Rt) es G n (n + 1) v [] = some W := by
      cases hv : Rt v with
      | none =>
        rw [wayS, if_pos (.inr (by rw [(dsOf_dD hn (hl v List.mem_cons_self)).2, dsAt_none hv]))]
        exact ⟨_, rfl⟩
      | some r =>
        have := List.idxOf_lt_length_of_mem (d3 v (by rw [hv]; simp))
        exact way_some hS hn hE hs d3 d4 (n + 1) v [] r hv (by omega) (by simp; omega)
    obtain ⟨W, hW⟩ := hw
    rw [backS, hW]
    exact back_some hS hn hE hsn l (G ++ W) (fun x hx => hl x (List.mem_cons_of_mem _ hx)) (List.mem_append_left _ hs)
theorem tree_taken (hz : tcode (sorted vs) es s = 0) (hS : Spots es s (sorted vs) Rt) : treeB vs es s (dsOf (sorted vs) Rt) = true := by
  obtain ⟨hn, hE, h1, h4, hs, _⟩ := tcode_zero hz
  have hperm : (sorted vs).Perm vs := List.mergeSort_perm vs _
  have hmem : ∀ v, v ∈ sorted vs ↔ v ∈ vs := fun v => hperm.mem_iff
  unfold treeB
  rw [decide_eq_true hz, decide_eq_true (show (dsOf (sorted vs) Rt).length = vs.length by unfold dsOf; rw [List.length_map, sorted_length])]
  have ho : (vs.all fun v => (dsM (dsOf (sorted vs) Rt) v).isSome && ownB s (dsOf (sorted vs) Rt) es (dD (dsOf (sorted vs) Rt) v)) = true := by
    rw [List.all_eq_true]
    intro v hv
    obtain ⟨e1, e2⟩ := dsOf_dD (Rt := Rt) hn ((hmem v).2 hv)
    rw [e1, e2]
    have hown : ownB s (dsOf (sorted vs) Rt) es (dsAt Rt v) = true := by
      unfold ownB
      rw [dsAt_key]
      by_cases hvs : v = s
      · subst hvs
        rw [if_pos rfl, dsAt_some hS.src]
        rfl
      · rw [if_neg hvs]
        cases hr : Rt v with
        | none =>
          rw [dsAt_none hr]
          rfl
        | some r =>
          rw [dsAt_some hr]
          dsimp only
          rw [if_neg (by decide)]
          obtain ⟨D, _, _, _, d4⟩ := hS.last
          obtain ⟨u, b, cu, eu, g1, _, _, g4, g5, _⟩ := d4 v r hr hvs
          rw [find_of hE g1]
          dsimp only
          rw [(dsOf_dD hn (hS.dom u (by rw [g4]; simp))).2, dsAt_some g4]
          exact decide_eq_true ⟨rfl, rfl, g5⟩
    rw [hown]
    rfl
  have hq : es.all (quietB (dsOf (sorted vs) Rt)) = true := by
    rw [List.all_eq_true]
    intro x hx
    unfold quietB
    rw [(dsOf_dD hn (h4 x hx).1).2, (dsOf_dD hn (h4 x hx).2).2]
    cases hu : Rt x.2.1 with
    | none =>
      rw [dsAt_none hu]
      rfl
    | some c =>
      obtain ⟨r, h5, h6⟩ := hS.quiet x hx c hu
      rw [dsAt_some hu, dsAt_some h5]
      simp [h6]
  rw [ho, hq, back_some hS hn hE (Nat.le_of_eq (sorted_length vs)) vs [s] (fun v hv => (hmem v).2 hv) (List.mem_singleton_self s)]
  rfl
theorem tree_len {ds : List Ds} (h : ds.length ≠ vs.length) : treeB vs es s ds = false := by
  unfold treeB
  rw [decide_eq_false h]
  simp
theorem tree_refused {ds : List Ds} {v : Int} (hv : v ∈ vs) (h : ownB s ds es (dD ds v) = false) : treeB vs es s ds = false := by
  cases ht : treeB vs es s ds with
  | false => rfl
  | true =>
    unfold treeB at ht
    simp only [Bool.and_eq_true, List.all_eq_true] at ht
    have := (ht.1.1.2 v hv).2
    rw [h] at this
    cases this
theorem keys_set {ds : List Ds} {i : Nat} {x y : Ds} (hx : ds[i]? = some x) (hk : y.1 = x.1) : (ds.set i y).map (·.1) = ds.map (·.1) := by
  rw [List.map_set, hk]
  obtain ⟨hi, rfl⟩ := List.getElem?_eq_some_iff.1 hx
  apply List.ext_getElem?
  intro j
  rw [List.getElem?_set]
  split
  · rename_i h
    subst h
    split
    · rw [List.getElem?_map, List.getElem?_eq_getElem hi]
      rfl
    · rename_i h
      simp at h
      omega
  · rfl
theorem turned {i : Nat} {v : Int} {y : Ds} (hz : tcode (sorted vs) es s = 0) (hv : (sorted vs)[i]? = some v) (hk : y.1 = v) (ho : ∀ ds : List Ds, (∀ u ∈ sorted vs, u ≠ v → dD ds u = dsAt Rt u) → ownB s ds es y = false) : treeB vs es s ((dsOf (sorted vs) Rt).set i y) = false := by
  obtain ⟨hn, hE, h1, h4, hs, _⟩ := tcode_zero hz
  have hperm : (sorted vs).Perm vs := List.mergeSort_perm vs _
  have hx : (dsOf (sorted vs) Rt)[i]? = some (dsAt Rt v) := by unfold dsOf; rw [List.getElem?_map, hv]; rfl
  have hkeys : (((dsOf (sorted vs) Rt).set i y).map (·.1)).Nodup := by
    rw [keys_set hx (by rw [dsAt_key]; exact hk), dsOf_keys]
    exact hn
  have hi := (List.getElem?_eq_some_iff.1 hx).1
  have hy : y ∈ (dsOf (sorted vs) Rt).set i y := List.mem_iff_getElem?.2 ⟨i, by rw [List.getElem?_set, if_pos rfl, if_pos hi]⟩
  refine tree_refused (v := v) (hperm.mem_iff.1 (List.mem_of_getElem? hv)) ?_
  have hdy := dD_of hkeys hy
  rw [hk] at hdy
  rw [hdy]
  refine ho _ fun u hu hne => ?_
  obtain ⟨j, hj, hje⟩ := List.getElem_of_mem hu
  have hxj : (dsOf (sorted vs) Rt)[j]? = some (dsAt Rt u) := by unfold dsOf; rw [List.getElem?_map, List.getElem?_eq_getElem hj, hje]; rfl
  have hij : ¬ i = j := fun e => by
    subst e
    rw [List.getElem?_eq_getElem hj, hje] at hv
    exact hne (Option.some.inj hv)
  have hm : dsAt Rt u ∈ (dsOf (sorted vs) Rt).set i y := List.mem_iff_getElem?.2 ⟨j, by rw [List.getElem?_set, if_neg hij]; exact hxj⟩
  have := dD_of hkeys hm
  rwa [dsAt_key] at this
theorem turned_bits {i : Nat} {v : Int} {f : Bool} {b b' : Nat} {e : Int} (hz : tcode (sorted vs) es s = 0) (hS : Spots es s (sorted vs) Rt) (hv : (sorted vs)[i]? = some v) (hx : dsAt Rt v = (v, f, b, e)) (hb : b' ≠ b) : treeB vs es s ((dsOf (sorted vs) Rt).set i (v, f, b', e)) = false := by
  obtain ⟨hn, hE, h1, h4, hs, _⟩ := tcode_zero hz
  refine turned hz hv rfl fun ds hds => ?_
  unfold ownB
  dsimp only
  by_cases hvs : v = s
  · subst hvs
    rw [dsAt_some hS.src] at hx
    cases hx
    rw [if_pos rfl]
    exact decide_eq_false fun h => hb h.2.1
  · rw [if_neg hvs]
    cases hr : Rt v with
    | none =>
      rw [dsAt_none hr] at hx
      cases hx
      rw [if_pos rfl]
      exact decide_eq_false fun h => hb h.1
    | some r =>
      rw [dsAt_some hr] at hx
      cases hx
      rw [if_neg (by decide)]
      obtain ⟨D, _, _, _, d4⟩ := hS.last
      obtain ⟨u, w, cu, eu, g1, g2, _, g4, g5, _⟩ := d4 v r hr hvs
      rw [find_of hE g1]
      dsimp only
      rw [hds u (hS.dom u (by rw [g4]; simp)) g2, dsAt_some g4]
      exact decide_eq_false fun h => hb (h.2.2.trans g5.symm)
theorem turned_far {i : Nat} {v : Int} {f : Bool} {b : Nat} {e : Int} (hz : tcode (sorted vs) es s = 0) (hS : Spots es s (sorted vs) Rt) (hv : (sorted vs)[i]? = some v) (hx : dsAt Rt v = (v, f, b, e)) : treeB vs es s ((dsOf (sorted vs) Rt).set i (v, !f, b, e)) = false := by
  obtain ⟨hn, hE, h1, h4, hs, _⟩ := tcode_zero hz
  refine turned hz hv rfl fun ds hds => ?_
  unfold ownB
  dsimp only
  by_cases hvs : v = s
  · subst hvs
    rw [dsAt_some hS.src] at hx
    cases hx
    rw [if_pos rfl]
    rfl
  · rw [if_neg hvs]
    cases hr : Rt v with
    | none =>
      rw [dsAt_none hr] at hx
      cases hx
      rw [if_neg (by decide), find_no h1 (Int.le_refl _)]
    | some r =>
      rw [dsAt_some hr] at hx
      cases hx
      rw [if_pos (by decide)]
      obtain ⟨D, _, _, _, d4⟩ := hS.last
      obtain ⟨u, w, cu, eu, g1, _⟩ := d4 v r hr hvs
      have := h1 _ g1
      exact decide_eq_false fun h => by
        have h2 := h.2
        omega
theorem turned_edge {i : Nat} {v : Int} {f : Bool} {b : Nat} {e e' : Int} (hz : tcode (sorted vs) es s = 0) (hv : (sorted vs)[i]? = some v) (he : e' < 0) : treeB vs es s ((dsOf (sorted vs) Rt).set i (v, f, b, e')) = false := by
  obtain ⟨hn, hE, h1, h4, hs, _⟩ := tcode_zero hz
  refine turned hz hv rfl fun ds hds => ?_
  unfold ownB
  dsimp only
  split
  · exact decide_eq_false fun h => by omega
  · split
    · exact decide_eq_false fun h => by omega
    · rw [find_no h1 (by omega)]
end
end Go.Proofs.Ytgihncjllelonaa.Ce

/- A distance and a tree as arguments. -/
namespace Go.Proofs.Ytgihncjllelonaa.Ce
open Go Go.RowKit Go.ChangeShapes Go.WideShapes Go.ChangeAt Go.Deep Go.Proofs.Ytgihncjllelonaa.Mem Go.Proofs.Ytgihncjllelonaa.Lw Go.Proofs.Ytgihncjllelonaa.Tb
set_option linter.unusedSimpArgs false
set_option linter.unusedVariables false

section
variable {H : Type} {enc : TypeId × Value → H} {W : World} {base : Nat} {v : Value} {d : DataW H} {p : List MemPlace}
theorem cells_dist : Try.prog.cellsOf 43 = 4 := by kernel_rfl
theorem cells_bool : Try.prog.cellsOf 4 = 1 := by kernel_rfl
theorem dist_fields : ∃ f0 f1 f2 f3 : Field, Try.prog.underlying 43 = some (.struct #[f0, f1, f2, f3]) ∧ (f0.offset = 0 ∧ f1.offset = 1 ∧ f2.offset = 2 ∧ f3.offset = 3) ∧ f0.type = 3 ∧ f1.type = 4 ∧ f2.type = 41 ∧ f3.type = 3 :=
  ⟨_, _, _, _, Try.underlying43, ⟨rfl, rfl, rfl, rfl⟩, rfl, rfl, rfl, rfl⟩
theorem dist_cells {fuel : Nat} {x : DataW H × List MemPlace} {v0 v1 v2 v3 : Value} (h : DataW.trod enc Try.prog W 0 (fun _ => true) true fuel 43 [v0, v1, v2, v3] = some x) : ∃ (a : Int) (f : Bool) (b : Nat) (e : Int), v0 = .int .i64 a ∧ v1 = .bool f ∧ v2 = .int .u32 (b : Int) ∧ v3 = .int .i64 e ∧ b < 4294967296 := by
  obtain ⟨f0, f1, f2, f3, hu, ⟨o0, o1, o2, o3⟩, t0, t1, t2, t3⟩ := dist_fields
  obtain ⟨xs, k, hk, hxy, _, hxl, hf⟩ := DataW.trod_struct hu h
  match xs, hxl with
  | [y0, y1, y2, y3], _ =>
    have g0 := hf 0 f0 rfl
    have g1 := hf 1 f1 rfl
    have g2 := hf 2 f2 rfl
    have g3 := hf 3 f3 rfl
    simp [o0, o1, o2, o3, t0, t1, t2, t3, cells_int, cells_u32, cells_bool] at g0 g1 g2 g3
    obtain ⟨x0, hx0, _⟩ := DataW.trod_int Try.underlying3 g0
    obtain ⟨x1, hx1, _⟩ := DataW.trod_bool Try.underlying4 g1
    obtain ⟨x2, hx2, _, hw2⟩ := DataW.trod_int Try.underlying41 g2
    obtain ⟨x3, hx3, _⟩ := DataW.trod_int Try.underlying3 g3
    cases hx0
    cases hx1
    cases hx2
    cases hx3
    obtain ⟨b, rfl, hb⟩ := u32_nat hw2
    exact ⟨x0, x1, b, x3, rfl, rfl, rfl, rfl, hb⟩
set_option maxRecDepth 100000 in
theorem dist_in (hv : Value.okWide Try.prog W .any base 43 v) (h : DataW.Trod enc Try.prog W 0 (fun _ => true) true 43 v d p) : ∃ (a : Int) (f : Bool) (b : Nat) (e : Int), v = .agg #[.int .i64 a, .bool f, .int .u32 (b : Int), .int .i64 e] ∧ b < 4294967296 := by
  obtain ⟨cs, rfl, hsz⟩ := okWide_struct Try.underlying43 hv
  rw [cells_dist] at hsz
  obtain ⟨fuel, hf⟩ := h
  obtain ⟨l, hl⟩ : ∃ l, cs.toList = l := ⟨_, rfl⟩
  have hcs : cs = l.toArray := by rw [← hl]
  have hlen : l.length = 4 := by rw [← hl]; simpa using hsz
  match l, hlen with
  | [v0, v1, v2, v3], _ =>
    subst hcs
    obtain ⟨a, f, b, e, rfl, rfl, rfl, rfl, hb⟩ := dist_cells (v0 := v0) (v1 := v1) (v2 := v2) (v3 := v3) hf
    exact ⟨a, f, b, e, rfl, hb⟩
end
end Go.Proofs.Ytgihncjllelonaa.Ce

/- tree: Dist, Last, Dists. -/
namespace Go.Proofs.Ytgihncjllelonaa.Ce
open Go Go.RowKit Go.MapKept Go.Proofs.Ytgihncjllelonaa.Mem Go.Proofs.Ytgihncjllelonaa.Sl Go.Proofs.Ytgihncjllelonaa.Lw Go.Proofs.Ytgihncjllelonaa.Wt Go.Proofs.Ytgihncjllelonaa.Tb Go.Proofs.Ytgihncjllelonaa.Scc Go.Proofs.Ytgihncjllelonaa.Tj Go.Proofs.YtgihncjllelonaaW.PrintWords Go.Proofs.YtgihncjllelonaaW.PrintLast
attribute [local go_sem ↓] Go.wp_at_zero Go.wp_at_succ
attribute [local go_sem] Go.Proofs.Ytgihncjllelonaa.Wt.run_store_float
set_option linter.unusedSimpArgs false
set_option linter.unusedVariables false

structure TrM (W : World) (gt n cv me ms : Nat) (A : Option Addr) (s : Int) (sv : List Int) (Rt : Int → Option (Nat × Int)) : Prop where
  hat : At W gt [.int .i64 s, .slice A n cv, .map (some me), .map (some ms)] 94
  rd : RdI W A sv
  sm : MQ W ms (spF Rt)
section
variable {W W' : World} {gt n cv me ms : Nat} {A : Option Addr} {s : Int} {sv : List Int} {Rt : Int → Option (Nat × Int)}
theorem TrM.below (h : TrM W gt n cv me ms A s sv Rt) (hb : Below W.heap.size W W') : TrM W' gt n cv me ms A s sv Rt := ⟨h.hat.below hb h.hat.lt, h.rd.below hb, h.sm.below hb h.sm.lt⟩
theorem TrM.of {w0 : World} {es : List Ed} (h : TreeM w0 W gt n cv me ms A s sv es Rt) : TrM W gt n cv me ms A s sv Rt := ⟨h.hat, (RdI.of_own h.ro).1, h.sm⟩
end
set_option maxHeartbeats 8000000 in
set_option maxRecDepth 100000 in
theorem dist_calls (w : World) (gt n cv me ms : Nat) (A : Option Addr) (s : Int) (sv : List Int) (Rt : Int → Option (Nat × Int)) (h : TrM w gt n cv me ms A s sv Rt) (hn : sv.length = n) (hl : n ≤ 400) (hs : sv.Pairwise (· ≤ ·)) (hq : ∀ v r, Rt v = some r → r.1 ≤ 2139095040) (v : Int) (hv : v ∈ sv) :
    Calls Try.prog 50 #[.pointer (some ⟨gt, 0, none⟩), .int .i64 v] w fun e w' => e = .returned (.tuple #[.int .u32 ((dsAt Rt v).2.2.1 : Int), .int .i64 (if (dsAt Rt v).2.1 then 130 else 0)]) ∧ Below w.heap.size w w' := by
  have q3 := h.hat.cell 3 rfl
  have lk := h.sm.lookup_ok (P := Try.prog) (T := 92) Try.underlying92 Try.underlying3 zero_spot v
  cases hr : Rt v with
  | none =>
    have e1 : spF Rt v = none := by unfold spF; rw [hr]; rfl
    rw [e1] at lk
    rw [dsAt_none hr]
    have his := is_calls (w.alloc (.cells #[.float .f32 0, .int .i64 0] 101)) gt n cv A sv .nilFunc (.map (some me)) (.map (some ms)) s h.hat.al (h.rd.below ((Below.refl _ _).alloc (Nat.le_refl _) _)) hn (by omega) hs v
    rw [show sv.contains v = true from List.contains_iff_mem.2 hv] at his
    have HIS := Lib.hid his
    clear h hn hl hs hq hv hr e1 his
    go_enter Try.func50, Try.ntmps50
    go_wp2_with fail
    refine HIS.out.mono ?_
    clear HIS
    rintro e w2 ⟨rfl, hb2⟩
    have HB := Lib.hid (((Below.refl w.heap.size w).alloc (Nat.le_refl _) (.cells #[.float .f32 0, .int .i64 0] 101)).trans (hb2.mono (by simp)))
    clear hb2
    go_wp2
    go_ret2
    exact ⟨rfl, HB.out⟩
  | some r =>
    obtain ⟨c, eg⟩ := r
    have e1 : spF Rt v = some (.agg #[.float .f32 c, .int .i64 eg]) := by unfold spF; rw [hr]; rfl
    rw [e1] at lk
    rw [dsAt_some hr]
    have his := is_calls (w.alloc (.cells #[.float .f32 c, .int .i64 eg] 101)) gt n cv A sv .nilFunc (.map (some me)) (.map (some ms)) s h.hat.al (h.rd.below ((Below.refl _ _).alloc (Nat.le_refl _) _)) hn (by omega) hs v
    rw [show sv.contains v = true from List.contains_iff_mem.2 hv] at his
    have HIS := Lib.hid his
    have HWB := Lib.hid (fun (W : World) => wbits_calls c W (hq v _ hr))
    clear h hn hl hs hq hv hr e1 his
    go_enter Try.func50, Try.ntmps50
    go_wp2_with fail
    refine HIS.out.mono ?_
    clear HIS
    rintro e w2 ⟨rfl, hb2⟩
    have HB := Lib.hid (((Below.refl w.heap.size w).alloc (Nat.le_refl _) (.cells #[.float .f32 c, .int .i64 eg] 101)).trans (hb2.mono (by simp)))
    have c0 : w2.cell? ⟨w.heap.size, 0, none⟩ = some (.float .f32 c) := ((At.made (w := w) (a := #[.float .f32 c, .int .i64 eg]) (T := 101) rfl rfl).below hb2 (by simp)).cell 0 rfl
    clear hb2
    go_wp2_with fail
    refine (HWB.out _).mono ?_
    rintro e w3 ⟨rfl, rfl⟩
    go_wp2
    go_ret2
    exact ⟨rfl, HB.out⟩
set_option maxHeartbeats 8000000 in
set_option maxRecDepth 100000 in
theorem last_calls (w : World) (gt n cv me ms : Nat) (A : Option Addr) (s : Int) (sv : List Int) (Rt : Int → Option (Nat × Int)) (h : TrM w gt n cv me ms A s sv Rt) (v : Int) :
    Calls Try.prog 51 #[.pointer (some ⟨gt, 0, none⟩), .int .i64 v] w fun e w' => e = .returned (.int .i64 (dsAt Rt v).2.2.2) ∧ w' = w := by
  have q3 := h.hat.cell 3 rfl
  have lk : (Instr.lookup 92 (.map (some ms)) (.int .i64 v) false).run Try.prog w = .ok ((spF Rt v).getD (.agg #[.float .f32 0, .int .i64 0])) w := h.sm.lookup Try.underlying92 Try.underlying3 zero_spot v
  have fld : ∀ (w : World) (a b : Value), (Instr.field 101 (.agg #[a, b]) 1).run Try.prog w = .ok b w := fun w a b => by kernel_rfl
  cases hr : Rt v with
  | none =>
    have e1 : spF Rt v = none := by unfold spF; rw [hr]; rfl
    rw [e1] at lk
    rw [dsAt_none hr]
    clear h hr e1
    go_enter Try.func51, Try.ntmps51
    go_wp2
    go_ret
    exact ⟨rfl, rfl⟩
  | some r =>
    obtain ⟨c, eg⟩ := r
    have e1 : spF Rt v = some (.agg #[.float .f32 c, .int .i64 eg]) := by unfold spF; rw [hr]; rfl
    rw [e1] at lk
    rw [dsAt_some hr]
    clear h hr e1
    go_enter Try.func51, Try.ntmps51
    go_wp2
    go_ret
    exact ⟨rfl, rfl⟩
theorem info_dist : (Try.prog.info? 43).map (fun i => (i.zero, i.size, i.bytes)) = some (some (.agg #[.int .i64 0, .bool false, .int .u32 0, .int .i64 0]), 4, 24) := by kernel_rfl
def dsC (l : List Ds) : List Value := l.flatMap fun p => [.int .i64 p.1, .bool p.2.1, .int .u32 (p.2.2.1 : Int), .int .i64 p.2.2.2]
theorem dsC_cons (p : Ds) (l : List Ds) : dsC (p :: l) = .int .i64 p.1 :: .bool p.2.1 :: .int .u32 (p.2.2.1 : Int) :: .int .i64 p.2.2.2 :: dsC l := rfl
theorem dsC_append (a b : List Ds) : dsC (a ++ b) = dsC a ++ dsC b := by simp [dsC]
theorem dsC_length : ∀ l : List Ds, (dsC l).length = l.length * 4
  | [] => rfl
  | p :: l => by rw [dsC_cons, List.length_cons, List.length_cons, List.length_cons, List.length_cons, dsC_length l, List.length_cons]; omega
theorem dsC_at : ∀ (l : List Ds) (j : Nat) (v : Int) (f : Bool) (b : Nat) (e : Int), l[j]? = some (v, f, b, e) → (dsC l)[j * 4]? = some (.int .i64 v) ∧ (dsC l)[j * 4 + 1]? = some (.bool f) ∧ (dsC l)[j * 4 + 2]? = some (.int .u32 (b : Int)) ∧ (dsC l)[j * 4 + 3]? = some (.int .i64 e)
  | [], _, _, _, _, _, h => by simp at h
  | p :: l, 0, v, f, b, e, h => by cases h; exact ⟨rfl, rfl, rfl, rfl⟩
  | p :: l, j + 1, v, f, b, e, h => by
    have := dsC_at l j v f b e (by simpa using h)
    rw [dsC_cons, show (j + 1) * 4 = j * 4 + 1 + 1 + 1 + 1 by omega]
    simpa using this
set_option maxHeartbeats 8000000 in
set_option maxRecDepth 100000 in
theorem dists_calls (w : World) (gt n cv me ms : Nat) (A : Option Addr) (s : Int) (sv : List Int) (Rt : Int → Option (Nat × Int)) (h : TrM w gt n cv me ms A s sv Rt) (hn : sv.length = n) (hl : n ≤ 400) (hs : sv.Pairwise (· ≤ ·)) (hq : ∀ v r, Rt v = some r → r.1 ≤ 2139095040) :
    Calls Try.prog 19 #[.pointer (some ⟨gt, 0, none⟩)] w fun e w' => ∃ v, e = .returned v ∧ One w 43 4 v n (dsC (dsOf sv Rt)) w' := by
  obtain ⟨i5, hi5, hz5, hs5, hy5⟩ := info_parts info_dist
  have q1 := h.hat.cell 1 rfl
  have HI := Lib.hid (And.intro h (And.intro hn (And.intro hs hq)))
  clear h hn hs hq
  go_enter Try.func19, Try.ntmps19
  go_wp2_with fail
  clear q1
  go_loopg [3, 13] n (fun kq v3 v13 w' => ∃ j : Nat, v13 = .int .i64 (j : Int) ∧ Hid (j + kq = n ∧ One w 43 4 v3 j (dsC (dsOf (sv.take j) Rt)) w'))
  case atStart => exact ⟨0, rfl, Lib.hid ⟨by omega, One.start⟩⟩
  case round =>
    obtain ⟨j, rfl, hJ⟩ := hrel
    obtain ⟨hjk, hO⟩ := hJ.out
    clear hJ
    by_cases hj : j < n
    · obtain ⟨k1, rfl⟩ : ∃ k1, gk = k1 + 1 := ⟨gk - 1, by omega⟩
      obtain ⟨v, hx⟩ : ∃ x, sv[j]? = some x := ⟨_, List.getElem?_eq_getElem (by have := HI.out.2.1; omega)⟩
      obtain ⟨ga, hga, cx⟩ := (HI.out.1.rd.below hO.b) j v hx
      subst hga
      obtain ⟨A3, c3, rfl⟩ := Lw.own_slice hO.r
      have hdi := dist_calls wr gt n cv me ms _ s sv Rt (HI.out.1.below hO.b) HI.out.2.1 hl HI.out.2.2.1 HI.out.2.2.2 v (List.mem_of_getElem? hx)
      have hla := fun (W : World) (hb : Below w.heap.size w W) => last_calls W gt n cv me ms _ s sv Rt (HI.out.1.below hb) v
      obtain ⟨⟨v', f, b, e⟩, hd⟩ : ∃ d, dsAt Rt v = d := ⟨_, rfl⟩
      have hv' : v' = v := by
        have := dsAt_key Rt v
        rw [hd] at this
        exact this
      subst hv'
      rw [hd] at hdi hla
      dsimp only at hdi hla
      have HDI := Lib.hid hdi
      have HLA := Lib.hid hla
      have HO0 := Lib.hid (And.intro hjk (And.intro hO (And.intro hx hd)))
      have j0 : (0 : Int) ≤ (j : Int) := by omega
      have j1 : (j : Int) < (n : Int) := by omega
      clear hO hjk hx hd hdi hla hj
      cases f with
      | true =>
        go_wp2_with fail
        refine HDI.out.mono ?_
        clear HDI
        rintro e1 w1 ⟨rfl, hb1⟩
        have hO1 := HO0.out.2.1.below hb1
        have HO := Lib.hid hO1
        clear hb1 hO1
        go_wp2_with fail
        refine (HLA.out _ HO.out.b).mono ?_
        clear HLA
        rintro e2 w2 ⟨rfl, rfl⟩
        have HNX := Lib.hid (fun (v4 : Value) (w4 : World) (ho : w4.ownsRow w.heap.size 43 4 v4 (j + 1) (dsC (dsOf (sv.take j) Rt) ++ [.int .i64 v', .bool true, .int .u32 (b : Int), .int .i64 e])) (hg : (w2.alloc (.cells #[.int .i64 v', .bool true, .int .u32 (b : Int), .int .i64 e] 43)).grownBy w4 (Value.slice A3 j c3).ownBlock) => show j + 1 + k1 = n ∧ One w 43 4 v4 (j + 1) (dsC (dsOf (sv.take (j + 1)) Rt)) w4 from by
          refine ⟨by have := HO0.out.1; omega, ?_⟩
          rw [List.take_add_one, HO0.out.2.2.1, Option.toList_some]
          unfold dsOf
          rw [List.map_append, dsC_append, List.map_singleton, HO0.out.2.2.2]
          exact (HO.out.below ((Below.refl _ _).alloc (Nat.le_refl _) _)).grow ho hg)
        have t1 := RdV.lit w2 #[.int .i64 v', .bool true, .int .u32 (b : Int), .int .i64 e] 43 1 4 1 rfl (by simp [Value.oneCell'])
        have t2 := HO.out.r.alloc (.cells #[.int .i64 v', .bool true, .int .u32 (b : Int), .int .i64 e] 43)
        have t3 : w.heap.size ≤ (w2.alloc (.cells #[.int .i64 v', .bool true, .int .u32 (b : Int), .int .i64 e] 43)).heap.size := by have := HO.out.b.size; simp; omega
        have t4 : (j + 1) * 24 ≤ 140737488355328 := by omega
        have t5 : j + 1 ≤ maxLen := by unfold maxLen; omega
        have HT := Lib.hid (And.intro t1 (And.intro t2 (And.intro t3 (And.intro t4 t5))))
        clear t1 t2 t3 t4 t5
        go_wp2_with ((at_builtin; (refine wpList_append_any rfl (.tmp 23) (.tmp 32) 40 rfl w.heap.size 43 i5 (.agg #[.int .i64 0, .bool false, .int .u32 0, .int .i64 0]) 4 24 Try.underlying40 hi5 hz5 hs5 hy5 rfl (by omega) _ _ _ rfl HT.out.2.1 _ rfl 1 _ HT.out.1 HT.out.2.2.2.2 HT.out.2.2.2.1 HT.out.2.2.1 ?_; intro v4 w4 ho hg hn; have HN := Lib.hid (HNX.out v4 w4 ho hg); clear ho hg hn)))
        go_roundg k1
        case measure => omega
        case rel => exact ⟨j + 1, by go_num, HN⟩
      | false =>
        go_wp2_with fail
        refine HDI.out.mono ?_
        clear HDI
        rintro e1 w1 ⟨rfl, hb1⟩
        have hO1 := HO0.out.2.1.below hb1
        have HO := Lib.hid hO1
        clear hb1 hO1
        go_wp2_with fail
        refine (HLA.out _ HO.out.b).mono ?_
        clear HLA
        rintro e2 w2 ⟨rfl, rfl⟩
        have HNX := Lib.hid (fun (v4 : Value) (w4 : World) (ho : w4.ownsRow w.heap.size 43 4 v4 (j + 1) (dsC (dsOf (sv.take j) Rt) ++ [.int .i64 v', .bool false, .int .u32 (b : Int), .int .i64 e])) (hg : (w2.alloc (.cells #[.int .i64 v', .bool false, .int .u32 (b : Int), .int .i64 e] 43)).grownBy w4 (Value.slice A3 j c3).ownBlock) => show j + 1 + k1 = n ∧ One w 43 4 v4 (j + 1) (dsC (dsOf (sv.take (j + 1)) Rt)) w4 from by
          refine ⟨by have := HO0.out.1; omega, ?_⟩
          rw [List.take_add_one, HO0.out.2.2.1, Option.toList_some]
          unfold dsOf
          rw [List.map_append, dsC_append, List.map_singleton, HO0.out.2.2.2]
          exact (HO.out.below ((Below.refl _ _).alloc (Nat.le_refl _) _)).grow ho hg)
        have t1 := RdV.lit w2 #[.int .i64 v', .bool false, .int .u32 (b : Int), .int .i64 e] 43 1 4 1 rfl (by simp [Value.oneCell'])
        have t2 := HO.out.r.alloc (.cells #[.int .i64 v', .bool false, .int .u32 (b : Int), .int .i64 e] 43)
        have t3 : w.heap.size ≤ (w2.alloc (.cells #[.int .i64 v', .bool false, .int .u32 (b : Int), .int .i64 e] 43)).heap.size := by have := HO.out.b.size; simp; omega
        have t4 : (j + 1) * 24 ≤ 140737488355328 := by omega
        have t5 : j + 1 ≤ maxLen := by unfold maxLen; omega
        have HT := Lib.hid (And.intro t1 (And.intro t2 (And.intro t3 (And.intro t4 t5))))
        clear t1 t2 t3 t4 t5
        go_wp2_with ((at_builtin; (refine wpList_append_any rfl (.tmp 23) (.tmp 32) 40 rfl w.heap.size 43 i5 (.agg #[.int .i64 0, .bool false, .int .u32 0, .int .i64 0]) 4 24 Try.underlying40 hi5 hz5 hs5 hy5 rfl (by omega) _ _ _ rfl HT.out.2.1 _ rfl 1 _ HT.out.1 HT.out.2.2.2.2 HT.out.2.2.2.1 HT.out.2.2.1 ?_; intro v4 w4 ho hg hn; have HN := Lib.hid (HNX.out v4 w4 ho hg); clear ho hg hn)))
        go_roundg k1
        case measure => omega
        case rel => exact ⟨j + 1, by go_num, HN⟩
    · obtain rfl : n = j := by omega
      have jn : ¬ ((n : Int) < (n : Int)) := by omega
      rw [List.take_of_length_le (by have := HI.out.2.1; omega)] at hO
      have HO := Lib.hid hO
      clear hO hjk hj
      go_wp2_with fail
      go_ret
      exact ⟨_, rfl, HO.out⟩
end Go.Proofs.Ytgihncjllelonaa.Ce

/- Rows cut in two: what can be read of them. (Two facts out of XGa4 and XGa5, for a seat without their functions.) -/
namespace Go.Proofs.Ytgihncjllelonaa.Ce
open Go Go.RowKit Go.Proofs.Ytgihncjllelonaa.Mem Go.Proofs.Ytgihncjllelonaa.Sl Go.Proofs.Ytgihncjllelonaa.Lw
set_option linter.unusedSimpArgs false
set_option linter.unusedVariables false

theorem RdV.cut {w : World} {base size n c i : Nat} {e : TypeId} {A : Option Addr} {xs : List Value} (h : w.ownsRow base e size (.slice A n c) n xs) (h1 : ∀ u ∈ xs, u.oneCell' = true) (hi : i < n) :
    ∃ g, A = some ⟨g, 0, none⟩ ∧ n ≤ c ∧ RdV w (.slice (some ⟨g, 0, none⟩) i c) i size (xs.take (i * size)) ∧ (c = i + 1 → RdV w (.slice (some ⟨g, 0, none⟩) (n - (i + 1)) (c - (i + 1))) (n - (i + 1)) size (xs.drop ((i + 1) * size))) ∧
      RdV w (.slice (some ⟨g, (i + 1) * size, none⟩) (n - (i + 1)) (c - (i + 1))) (n - (i + 1)) size (xs.drop ((i + 1) * size)) := by
  rcases h.2 with ⟨_, h2⟩ | ⟨g, cap, cur, hv, _, hh, hnc, _, _, _⟩
  · omega
  · cases hv
    have hlen : xs.length = n * size := h.1
    have hd : (xs.drop ((i + 1) * size)).length = (n - (i + 1)) * size := by rw [List.length_drop, hlen, Nat.sub_mul]
    have hcell : ∀ j u, xs[j]? = some u → w.cell? ⟨g, j, none⟩ = some u := fun j u hu => by
      have hj := (List.getElem?_eq_some_iff.1 hu).1
      exact (h.cellAt j (by omega)).trans hu
    refine ⟨g, rfl, hnc, ⟨?_, fun u hu => h1 u (List.mem_of_mem_take hu), .inr ⟨_, _, rfl, fun j u hu => ?_⟩⟩, fun hc => ?_, ⟨hd, fun u hu => h1 u (List.mem_of_mem_drop hu), .inr ⟨_, _, rfl, fun j u hu => ?_⟩⟩⟩
    · rw [List.length_take, hlen]
      exact Nat.min_eq_left (Nat.mul_le_mul_right _ (by omega))
    · rw [List.getElem?_take] at hu
      split at hu
      · rw [add_plain', Nat.zero_add]
        simpa using hcell j u hu
      · cases hu
    · have h0 : n - (i + 1) = 0 := by omega
      have hx : xs.drop ((i + 1) * size) = [] := List.length_eq_zero_iff.1 (by rw [hd, h0, Nat.zero_mul])
      rw [hx]
      exact ⟨by rw [h0, Nat.zero_mul]; rfl, by simp, .inr ⟨_, _, rfl, by simp⟩⟩
    · rw [List.getElem?_drop] at hu
      have ha : (⟨g, (i + 1) * size, none⟩ : Addr).add j = ⟨g, (i + 1) * size + j, none⟩ := by
        unfold Addr.add
        split <;> simp_all
      rw [ha]
      exact hcell _ u hu
theorem RdV.cutR {P : Program} {w : World} {base size n c i : Nat} {t e : TypeId} {ie : TypeInfo} {A : Option Addr} {xs : List Value} (ht : P.underlying t = some (.slice e)) (hie : P.info? e = some ie) (his : ie.size = size) (h : w.ownsRow base e size (.slice A n c) n xs) (h1 : ∀ u ∈ xs, u.oneCell' = true) (hi : i < n) :
    ∃ g, A = some ⟨g, 0, none⟩ ∧ n ≤ c ∧ RdV w (.slice (some ⟨g, 0, none⟩) i c) i size (xs.take (i * size)) ∧ ∃ AD cD, (∀ W : World, (Instr.slice t (.slice (some ⟨g, 0, none⟩) n c) (some (.int .i64 ((i : Int) + 1))) none none).run P W = .ok (.slice AD (n - (i + 1)) cD) W) ∧
      RdV w (.slice AD (n - (i + 1)) cD) (n - (i + 1)) size (xs.drop ((i + 1) * size)) := by
  obtain ⟨g, h2, hnc, h3, h4, h5⟩ := RdV.cut h h1 hi
  have he : P.elem t = e := by simp [Program.elem, ht]
  have hrun : ∀ W : World, (Instr.slice t (.slice (some ⟨g, 0, none⟩) n c) (some (.int .i64 ((i : Int) + 1))) none none).run P W = .ok (sliced (some ⟨g, 0, none⟩) (i + 1) n c size) W := fun W => by
    have := run_slice_l (P := P) W t (some ⟨g, 0, none⟩) n c (by rw [he]; exact ht) .i64 ((i : Int) + 1) (by omega) (by omega)
    rw [this, he]
    simp [sizeOf, typeInfo, hie, his]
  refine ⟨g, h2, hnc, h3, ?_⟩
  by_cases hc : c = i + 1
  · refine ⟨some ⟨g, 0, none⟩, c - (i + 1), fun W => by rw [hrun W]; simp [sliced, hc], h4 hc⟩
  · refine ⟨some ⟨g, (i + 1) * size, none⟩, c - (i + 1), fun W => ?_, h5⟩
    have ha : (⟨g, 0, none⟩ : Addr).add ((i + 1) * size) = ⟨g, (i + 1) * size, none⟩ := (by rw [add_plain', Nat.zero_add])
    rw [hrun W]
    simp [sliced, hc, ha]
end Go.Proofs.Ytgihncjllelonaa.Ce

/- CertTurned: words. -/
namespace Go.Proofs.Ytgihncjllelonaa.Ce
open Go Go.RowKit Go.MapKept Go.Proofs.Ytgihncjllelonaa.Mem Go.Proofs.Ytgihncjllelonaa.Sl Go.Proofs.Ytgihncjllelonaa.Lw Go.Proofs.Ytgihncjllelonaa.Wt Go.Proofs.Ytgihncjllelonaa.Tb
set_option linter.unusedSimpArgs false
set_option linter.unusedVariables false

theorem md_ex (n : Nat) (x : Int) (hn : 0 < n) : ∃ m : Nat, (IntKind.u64.wrap x).tmod (n : Int) = (m : Int) ∧ m < n := by
  have h0 : 0 ≤ IntKind.u64.wrap x := by rw [IntKind.wrap_u64]; omega
  have h1 : 0 ≤ (IntKind.u64.wrap x).tmod (n : Int) := by rw [Int.tmod_eq_emod_of_nonneg h0]; exact Int.emod_nonneg _ (by omega)
  have h2 : (IntKind.u64.wrap x).tmod (n : Int) < n := by rw [Int.tmod_eq_emod_of_nonneg h0]; exact Int.emod_lt_of_pos _ (by omega)
  exact ⟨((IntKind.u64.wrap x).tmod (n : Int)).toNat, by omega, by omega⟩
theorem and7 (x : Int) : ∃ r : Int, bits .and .i64 x 7 = r ∧ 0 ≤ r ∧ r ≤ 7 := by
  have h7 : (BitVec.ofInt IntKind.i64.bits 7).toNat = 7 := by decide
  have hle := Nat.and_le_right (n := (BitVec.ofInt IntKind.i64.bits x).toNat) (m := 7)
  refine ⟨_, rfl, ?_⟩
  simp only [bits, BitVec.toNat_and, h7]
  rw [IntKind.wrap_i64]
  omega
theorem u64n (k : Nat) (h : k ≤ 60) : IntKind.u64.wrap (k : Int) = (k : Int) := by rw [IntKind.wrap_u64]; omega
theorem rdV_own {W : World} {B : Nat} {e : TypeId} {s n c : Nat} {A : Option Addr} {xs : List Value} (h : W.ownsRow B e s (.slice A n c) n xs) (h1 : ∀ u ∈ xs, u.oneCell' = true) : RdV W (.slice A n c) n s xs := by
  refine ⟨h.1, h1, ?_⟩
  rcases h.2 with ⟨e, e0⟩ | ⟨g, cap, cur, e, _⟩
  · cases e
    exact .inl ⟨rfl, rfl⟩
  · cases e
    refine .inr ⟨_, _, rfl, fun j u hu => ?_⟩
    have hj := (List.getElem?_eq_some_iff.1 hu).1
    rw [add_plain', Nat.zero_add, h.cellAt j (by have := h.1; omega)]
    exact hu
theorem dsC_one (l : List Ds) : ∀ u ∈ dsC l, u.oneCell' = true := by
  induction l with
  | nil => simp [dsC]
  | cons p l ih =>
    intro u hu
    rw [dsC_cons] at hu
    simp at hu
    rcases hu with rfl | rfl | rfl | rfl | hu
    · rfl
    · rfl
    · rfl
    · rfl
    · exact ih u hu
theorem rdS_own {W : World} {B : Nat} {n c : Nat} {A : Option Addr} {l : List Ds} (h : W.ownsRow B 43 4 (.slice A n c) n (dsC l)) : RdS W A l ∧ n = l.length := by
  have hl := h.1
  rw [dsC_length] at hl
  have hn : n = l.length := by omega
  refine ⟨fun j v f b e hx => ?_, hn⟩
  have hj := (List.getElem?_eq_some_iff.1 hx).1
  obtain ⟨g, cap, hv, _⟩ := h.form (by omega)
  cases hv
  obtain ⟨e1, e2, e3, e4⟩ := dsC_at l j v f b e hx
  exact ⟨g, 0, rfl, by rw [Nat.zero_add, h.cellAt _ (by omega)]; exact e1, by rw [Nat.zero_add, h.cellAt _ (by omega)]; exact e2, by rw [Nat.zero_add, h.cellAt _ (by omega)]; exact e3, by rw [Nat.zero_add, h.cellAt _ (by omega)]; exact e4⟩
theorem dsC_set1 : ∀ (l : List Ds) (i : Nat) (v : Int) (f f' : Bool) (b : Nat) (e : Int), l[i]? = some (v, f, b, e) → (dsC l).set (i * 4 + 1) (.bool f') = dsC (l.set i (v, f', b, e))
  | [], _, _, _, _, _, _, h => by simp at h
  | p :: l, 0, v, f, f', b, e, h => by cases h; rfl
  | p :: l, i + 1, v, f, f', b, e, h => by
    have ih := dsC_set1 l i v f f' b e (by simpa using h)
    rw [dsC_cons, show (i + 1) * 4 + 1 = (i * 4 + 1) + 1 + 1 + 1 + 1 by omega, List.set_cons_succ, List.set_cons_succ, List.set_cons_succ, List.set_cons_succ, ih, List.set_cons_succ, dsC_cons]
theorem dsC_set2 : ∀ (l : List Ds) (i : Nat) (v : Int) (f : Bool) (b b' : Nat) (e : Int), l[i]? = some (v, f, b, e) → (dsC l).set (i * 4 + 2) (.int .u32 (b' : Int)) = dsC (l.set i (v, f, b', e))
  | [], _, _, _, _, _, _, h => by simp at h
  | p :: l, 0, v, f, b, b', e, h => by cases h; rfl
  | p :: l, i + 1, v, f, b, b', e, h => by
    have ih := dsC_set2 l i v f b b' e (by simpa using h)
    rw [dsC_cons, show (i + 1) * 4 + 2 = (i * 4 + 2) + 1 + 1 + 1 + 1 by omega, List.set_cons_succ, List.set_cons_succ, List.set_cons_succ, List.set_cons_succ, ih, List.set_cons_succ, dsC_cons]
theorem dsC_set3 : ∀ (l : List Ds) (i : Nat) (v : Int) (f : Bool) (b : Nat) (e e' : Int), l[i]? = some (v, f, b, e) → (dsC l).set (i * 4 + 3) (.int .i64 e') = dsC (l.set i (v, f, b, e'))
  | [], _, _, _, _, _, _, h => by simp at h
  | p :: l, 0, v, f, b, e, e', h => by cases h; rfl
  | p :: l, i + 1, v, f, b, e, e', h => by
    have ih := dsC_set3 l i v f b e e' (by simpa using h)
    rw [dsC_cons, show (i + 1) * 4 + 3 = (i * 4 + 3) + 1 + 1 + 1 + 1 by omega, List.set_cons_succ, List.set_cons_succ, List.set_cons_succ, List.set_cons_succ, ih, List.set_cons_succ, dsC_cons]
theorem dsC_take : ∀ (l : List Ds) (q : Nat), (dsC l).take (q * 4) = dsC (l.take q)
  | [], q => by simp [dsC]
  | p :: l, 0 => by simp [dsC]
  | p :: l, q + 1 => by
    rw [dsC_cons, show (q + 1) * 4 = q * 4 + 1 + 1 + 1 + 1 by omega, List.take_succ_cons, List.take_succ_cons, List.take_succ_cons, List.take_succ_cons, dsC_take l q, List.take_succ_cons, dsC_cons]
theorem dsC_drop : ∀ (l : List Ds) (q : Nat), (dsC l).drop (q * 4) = dsC (l.drop q)
  | [], q => by simp [dsC]
  | p :: l, 0 => by simp
  | p :: l, q + 1 => by
    rw [dsC_cons, show (q + 1) * 4 = q * 4 + 1 + 1 + 1 + 1 by omega, List.drop_succ_cons, List.drop_succ_cons, List.drop_succ_cons, List.drop_succ_cons, dsC_drop l q, List.drop_succ_cons]
structure TuM (w W : World) (A2 A3 : Option Addr) (gx B g10 nL c10 : Nat) (L : List Int) (E : List Ed) (xv : Int) (xf : Bool) (xb : Nat) (xe : Int) (ds : List Ds) : Prop where
  vs : RdI W A2 L
  es : RdD W A3 E
  x : At W gx [.int .i64 xv, .bool xf, .int .u32 (xb : Int), .int .i64 xe] 43
  l : W.ownsRow B 43 4 (.slice (some ⟨g10, 0, none⟩) nL c10) nL (dsC ds)
  b : Below w.heap.size w W
section
variable {w W W' : World} {A2 A3 : Option Addr} {gx B g10 nL c10 : Nat} {L : List Int} {E : List Ed} {xv : Int} {xf : Bool} {xb : Nat} {xe : Int} {ds : List Ds}
theorem TuM.below (h : TuM w W A2 A3 gx B g10 nL c10 L E xv xf xb xe ds) (hb : Below W.heap.size W W') : TuM w W' A2 A3 gx B g10 nL c10 L E xv xf xb xe ds :=
  ⟨h.vs.below hb, h.es.below hb, h.x.below hb h.x.lt, Lw.own_below h.l hb, h.b.trans (hb.mono h.b.size)⟩
theorem TuM.cells (h : TuM w W A2 A3 gx B g10 nL c10 L E xv xf xb xe ds) {i : Nat} {v : Int} {f : Bool} {b : Nat} {e : Int} (hx : ds[i]? = some (v, f, b, e)) : W.cell? ⟨g10, i * 4, none⟩ = some (.int .i64 v) ∧ W.cell? ⟨g10, i * 4 + 1, none⟩ = some (.bool f) ∧ W.cell? ⟨g10, i * 4 + 2, none⟩ = some (.int .u32 (b : Int)) ∧ W.cell? ⟨g10, i * 4 + 3, none⟩ = some (.int .i64 e) := by
  obtain ⟨g, off, h1, h2, h3, h4, h5⟩ := (rdS_own h.l).1 i v f b e hx
  cases h1
  rw [Nat.zero_add] at h2 h3 h4 h5
  exact ⟨h2, h3, h4, h5⟩
theorem TuM.tree (h : TuM w W A2 A3 gx B g10 nL c10 L E xv xf xb xe ds) {A : Option Addr} {c2 c3 c nl : Nat} {l : List Ds} {s : Int} {ans : Bool} (hl : RdS W A l) (hL : L.length = nL) (hLn : nL ≤ 30) {nE : Nat} (hE : E.length = nE) (hEn : nE ≤ 120) (hbit : ∀ p ∈ E, p.2.2.2 < 4294967296) (hdb : ∀ p ∈ l, p.2.2.1 < 4294967296) (hnl : l.length = nl) (ha : treeB L E s l = ans) :
    Calls Try.prog 17 #[.slice A2 nL c2, .slice A3 nE c3, .agg #[.int .i64 s, .slice A nl c]] W fun e w' => e = .returned (.bool ans) ∧ Below W.heap.size W w' := by
  have := tree_calls W A2 A3 A c2 c3 c L E l s h.vs h.es hl (by omega) (by omega) hbit hdb
  rwa [hL, hE, hnl, ha] at this
theorem rdV_at4 {g : Nat} {X : List Value} (h : At W g X 43) (hk : X.length = 1 * 4) (h1 : ∀ u ∈ X, u.oneCell' = true) : RdV W (.slice (some ⟨g, 0, none⟩) 1 1) 1 4 X :=
  ⟨hk, h1, .inr ⟨_, 1, rfl, fun j u hj => by rw [add_plain', Nat.zero_add]; exact h.cell j hj⟩⟩
end
end Go.Proofs.Ytgihncjllelonaa.Ce
