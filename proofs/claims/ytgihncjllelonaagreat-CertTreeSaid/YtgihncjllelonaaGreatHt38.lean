/- Plain: the claims' tree and the reference's answer are one. -/
import Derived.Test.YtgihncjllelonaaGreatHt37
import Derived.Test.YtgihncjllelonaaGreatHt5
import Derived.Test.YtgihncjllelonaaGreatHt31
namespace Go.Proofs.YtgihncjllelonaaGreat.Ce
set_option linter.unusedSimpArgs false
set_option linter.unusedVariables false
open Go Go.RowKit Go.Proofs.YtgihncjllelonaaGreat.Mem Go.Proofs.YtgihncjllelonaaGreat.Tj Go.Proofs.YtgihncjllelonaaGreat.Tb Go.Proofs.YtgihncjllelonaaGreat.Wt Go.Proofs.YtgihncjllelonaaGreat.Scc Go.Proofs.YtgihncjllelonaaGreat.Lw

theorem cnt_adm {b : Nat} (h : admOk b = true) : cnt (admR b) = cnt b := by
  unfold admR admB
  rw [h, if_pos rfl]
  by_cases hb : b = 2147483648
  · subst hb
    rw [if_pos rfl]
    rfl
  · rw [if_neg hb]
theorem add_adm {c b : Nat} (h : admOk b = true) : add32 c (admR b) = add32 c b := by
  unfold add32
  rw [cnt_adm h]
theorem find_adE (es : List Ed) (e : Int) : (es.map adE).find? (fun p => decide (p.1 = e)) = (es.find? fun p => decide (p.1 = e)).map adE := by
  rw [List.find?_map]
  rfl
theorem costF_snoc (es : List Ed) (e : Int) : ∀ (q : List Int) (c : Nat), costF es c (q ++ [e]) = add32 (costF es c q) (eD es e).2.2.2
  | [], c => rfl
  | x :: r, c => by
    rw [List.cons_append, costF, costF, costF_snoc es e r]
theorem len_le : ∀ (gs C : List Int), gs.Nodup → (∀ g ∈ gs, g ∈ C) → gs.length ≤ C.length
  | [], C, _, _ => Nat.zero_le _
  | g :: r, C, hn, h => by
    rw [List.nodup_cons] at hn
    have hg := h g (List.mem_cons_self ..)
    have := len_le r (C.erase g) hn.2 (fun x hx => (List.mem_erase_of_ne (fun e : x = g => hn.1 (by rw [← e]; exact hx))).2 (h x (List.mem_cons_of_mem _ hx)))
    rw [List.length_erase_of_mem hg] at this
    have := List.length_pos_of_mem hg
    rw [List.length_cons]
    omega
def Back (nx : Int → Int) (s : Int) : Nat → Int → Prop
  | 0, v => v = s
  | k + 1, v => v ≠ s ∧ Back nx s k (nx v)
def pathN (nx : Int → Int) : Nat → Int → List Int
  | 0, v => [v]
  | k + 1, v => v :: pathN nx k (nx v)
theorem back_one {nx : Int → Int} {s : Int} : ∀ {k j : Nat} {v : Int}, Back nx s k v → Back nx s j v → k = j
  | 0, 0, _, _, _ => rfl
  | 0, j + 1, v, h1, h2 => absurd h1 h2.1
  | k + 1, 0, v, h1, h2 => absurd h2 h1.1
  | k + 1, j + 1, v, h1, h2 => by rw [back_one h1.2 h2.2]
theorem pathN_len (nx : Int → Int) : ∀ (k : Nat) (v : Int), (pathN nx k v).length = k + 1
  | 0, _ => rfl
  | k + 1, v => by rw [pathN, List.length_cons, pathN_len]
theorem pathN_back {nx : Int → Int} {s : Int} : ∀ {k : Nat} {v : Int}, Back nx s k v → ∀ x ∈ pathN nx k v, ∃ j, j ≤ k ∧ Back nx s j x
  | 0, v, h, x, hx => ⟨0, Nat.le_refl _, by
    have : x = v := by simpa [pathN] using hx
    rw [this]
    exact h⟩
  | k + 1, v, h, x, hx => by
    rcases List.mem_cons.1 hx with rfl | hx
    · exact ⟨k + 1, Nat.le_refl _, h⟩
    · obtain ⟨j, h1, h2⟩ := pathN_back h.2 x hx
      exact ⟨j, by omega, h2⟩
theorem pathN_nodup {nx : Int → Int} {s : Int} : ∀ {k : Nat} {v : Int}, Back nx s k v → (pathN nx k v).Nodup
  | 0, v, _ => by simp [pathN]
  | k + 1, v, h => by
    rw [pathN, List.nodup_cons]
    refine ⟨fun hm => ?_, pathN_nodup h.2⟩
    obtain ⟨j, h1, h2⟩ := pathN_back h.2 v hm
    have := back_one h h2
    omega
theorem pathN_in {nx : Int → Int} {s : Int} {F : Int → Prop} (hF : ∀ v, F v → v ≠ s → F (nx v)) : ∀ {k : Nat} {v : Int}, Back nx s k v → F v → ∀ x ∈ pathN nx k v, F x
  | 0, v, _, hv, x, hx => by
    have : x = v := by simpa [pathN] using hx
    rw [this]
    exact hv
  | k + 1, v, h, hv, x, hx => by
    rcases List.mem_cons.1 hx with rfl | hx
    · exact hv
    · exact pathN_in hF h.2 (hF v hv h.1) x hx
theorem back_short {nx : Int → Int} {s : Int} {F : Int → Prop} {sl : List Int} (hF : ∀ v, F v → v ≠ s → F (nx v)) (hsl : ∀ v, F v → v ∈ sl) {k : Nat} {v : Int} (h : Back nx s k v) (hv : F v) : k + 1 ≤ sl.length := by
  rw [← pathN_len nx k v]
  exact len_le _ _ (pathN_nodup h) fun g hg => hsl g (pathN_in hF h hv g hg)
section
variable {ds : List Ds} {es : List Ed} {s : Int} {n : Nat} {F : Int → Prop}
theorem way_of {G : List Int} (hs : s ∈ G) (hfar : ∀ v, F v → (dD ds v).2.1 = false) (hF : ∀ v, F v → v ≠ s → F (nextU ds es v)) (hG : ∀ g ∈ G, F g → ∃ k, Back (nextU ds es) s k g) : ∀ (k : Nat) (u : Int) (way W : List Int), wayS ds es G n k u way = some W → F u → (∃ j, Back (nextU ds es) s j u) ∧ ∀ x ∈ W, x ∈ way ∨ ∃ j, Back (nextU ds es) s j x
  | 0, _, _, _, h, _ => by cases h
  | k + 1, u, way, W, h, hu => by
    rw [wayS] at h
    by_cases hg : u ∈ G
    · rw [if_pos (.inl hg)] at h
      cases h
      exact ⟨hG u hg hu, fun x hx => .inl hx⟩
    · rw [if_neg (fun hh => hh.elim hg fun hf => by rw [hfar u hu] at hf; cases hf)] at h
      split at h
      · cases h
      · have hus : u ≠ s := fun e => hg (e ▸ hs)
        obtain ⟨⟨j, hj⟩, h2⟩ := way_of hs hfar hF hG k _ _ W h (hF u hu hus)
        refine ⟨⟨j + 1, hus, hj⟩, fun x hx => ?_⟩
        rcases h2 x hx with h3 | h3
        · rcases List.mem_append.1 h3 with h4 | h4
          · exact .inl h4
          · have : x = u := by simpa using h4
            subst this
            exact .inr ⟨j + 1, hus, hj⟩
        · exact .inr h3
theorem back_of (hfar : ∀ v, F v → (dD ds v).2.1 = false) (hF : ∀ v, F v → v ≠ s → F (nextU ds es v)) : ∀ (l G : List Int), backS ds es n l G = true → s ∈ G → (∀ g ∈ G, F g → ∃ k, Back (nextU ds es) s k g) → (∀ v ∈ l, (dD ds v).2.1 = false → F v) → ∀ v ∈ l, F v → ∃ k, Back (nextU ds es) s k v
  | [], _, _, _, _, _, v, hv, _ => by cases hv
  | u :: r, G, h, hs, hG, hl, v, hv, hvF => by
    rw [backS] at h
    cases hw : wayS ds es G n (n + 1) u [] with
    | none => rw [hw] at h; cases h
    | some W =>
      rw [hw] at h
      have h' : backS ds es n r (G ++ W) = true := h
      have hW : ∀ x ∈ W, F x → ∃ k, Back (nextU ds es) s k x := fun x hx hxF => by
        by_cases huf : (dD ds u).2.1 = true
        · rw [wayS, if_pos (.inr huf)] at hw
          cases hw
          cases hx
        · rcases (way_of hs hfar hF hG _ u [] W hw (hl u (List.mem_cons_self ..) (Bool.eq_false_iff.2 huf))).2 x hx with h1 | h1
          · cases h1
          · exact h1
      rcases List.mem_cons.1 hv with rfl | hv
      · exact (way_of hs hfar hF hG _ v [] W hw hvF).1
      · exact back_of hfar hF r (G ++ W) h' (List.mem_append_left _ hs) (fun g hg hgF => (List.mem_append.1 hg).elim (fun hg => hG g hg hgF) fun hg => hW g hg hgF) (fun x hx => hl x (List.mem_cons_of_mem _ hx)) v hv hvF
theorem way_to {G : List Int} (hs : s ∈ G) : ∀ (f k : Nat) (u : Int) (way : List Int), Back (nextU ds es) s k u → way.length + k ≤ n → k < f → ∃ W, wayS ds es G n f u way = some W
  | 0, _, _, _, _, _, h => by omega
  | f + 1, k, u, way, hb, hl, hf => by
    rw [wayS]
    by_cases hg : u ∈ G ∨ (dD ds u).2.1 = true
    · exact ⟨way, if_pos hg⟩
    · rw [if_neg hg]
      cases k with
      | zero => exact absurd (.inl (show u ∈ G from (show u = s from hb) ▸ hs)) hg
      | succ k =>
        rw [if_neg (by omega)]
        exact way_to hs f k _ _ hb.2 (by rw [List.length_append, List.length_singleton]; omega) (by omega)
theorem to_back : ∀ (l G : List Int), s ∈ G → (∀ v ∈ l, (dD ds v).2.1 = false → ∃ k, k ≤ n ∧ Back (nextU ds es) s k v) → backS ds es n l G = true
  | [], _, _, _ => rfl
  | u :: r, G, hs, h => by
    rw [backS]
    have hw : ∃ W, wayS ds es G n (n + 1) u [] = some W := by
      cases huf : (dD ds u).2.1 with
      | true => exact ⟨[], by rw [wayS, if_pos (.inr huf)]⟩
      | false =>
        obtain ⟨k, hk, hb⟩ := h u (List.mem_cons_self ..) huf
        exact way_to hs (n + 1) k u [] hb (by simpa using hk) (by omega)
    obtain ⟨W, hW⟩ := hw
    rw [hW]
    exact to_back r _ (List.mem_append_left _ hs) fun v hv => h v (List.mem_cons_of_mem _ hv)
theorem wayL_one : ∀ (k k' : Nat) (u : Int) (a a' r r' : List Int), wayL es ds s n k u a = some r → wayL es ds s n k' u a' = some r' → ∃ q, r = q ++ a ∧ r' = q ++ a'
  | 0, _, _, _, _, _, _, h, _ => by cases h
  | _ + 1, 0, _, _, _, _, _, _, h => by cases h
  | k + 1, k' + 1, u, a, a', r, r', h, h' => by
    rw [wayL] at h h'
    by_cases hu : u = s
    · rw [if_pos hu] at h h'
      cases h
      cases h'
      exact ⟨[], rfl, rfl⟩
    · rw [if_neg hu] at h h'
      cases hf : es.find? (fun p => decide (p.1 = (dD ds u).2.2.2)) with
      | none => rw [hf] at h; cases h
      | some x =>
        rw [hf] at h h'
        simp only at h h'
        split at h
        · split at h'
          · obtain ⟨q, h1, h2⟩ := wayL_one k k' _ _ _ _ _ h h'
            exact ⟨q ++ [(dD ds u).2.2.2], by rw [h1]; simp, by rw [h2]; simp⟩
          · cases h'
        · cases h
end
end Go.Proofs.YtgihncjllelonaaGreat.Ce

/- Plain: what the reference answers is what cert answers. -/
namespace Go.Proofs.YtgihncjllelonaaGreat.Ce
set_option linter.unusedSimpArgs false
set_option linter.unusedVariables false
open Go Go.RowKit Go.Proofs.YtgihncjllelonaaGreat.Mem Go.Proofs.YtgihncjllelonaaGreat.Sl Go.Proofs.YtgihncjllelonaaGreat.Tj Go.Proofs.YtgihncjllelonaaGreat.Tb Go.Proofs.YtgihncjllelonaaGreat.Wt Go.Proofs.YtgihncjllelonaaGreat.Scc Go.Proofs.YtgihncjllelonaaGreat.Lw

theorem own_iff {s : Int} {ds : List Ds} {es : List Ed} {v : Int} (h1 : (dD ds v).1 = v) : ownB s ds es (dD ds v) = true ↔ (v = s ∧ (dD ds v).2.1 = false ∧ (dD ds v).2.2.1 = 0 ∧ (dD ds v).2.2.2 = 0) ∨ (v ≠ s ∧ (dD ds v).2.1 = true ∧ (dD ds v).2.2.1 = 0 ∧ (dD ds v).2.2.2 = 0) ∨ (v ≠ s ∧ (dD ds v).2.1 = false ∧ ∃ x, es.find? (fun p => decide (p.1 = (dD ds v).2.2.2)) = some x ∧ x.2.2.1 = v ∧ (dD ds x.2.1).2.1 = false ∧ (dD ds v).2.2.1 = add32 (dD ds x.2.1).2.2.1 x.2.2.2) := by
  unfold ownB
  rw [h1]
  by_cases hs : v = s
  · rw [if_pos hs]
    simp [hs]
  · rw [if_neg hs]
    by_cases hf : (dD ds v).2.1 = true
    · rw [if_pos hf, hf]
      simp [hs]
    · rw [if_neg hf, Bool.eq_false_iff.2 hf]
      cases he : es.find? (fun p => decide (p.1 = (dD ds v).2.2.2)) with
      | none => simp [hs]
      | some x => simp [hs]
section
variable {vs : List Int} {es : List Ed} {s : Int} {ds : List Ds} {d : List Nat}
structure Base (vs : List Int) (es : List Ed) (s : Int) (ds : List Ds) : Prop where
  z : tcode (sorted vs) es s = 0
  hN : (ds.map (·.1)).Nodup
  hK : ∀ v ∈ sorted vs, v ∈ ds.map (·.1)
theorem Base.up (h : Base vs es s ds) : (sorted vs).Pairwise (· < ·) := lt_of_nodup (sorted_rising vs) (tcode_zero h.z).1
theorem Base.key (h : Base vs es s ds) {v : Int} (hv : v ∈ sorted vs) : (dD ds v).1 = v ∧ dsM ds v = some (dD ds v) ∧ dV ds v = dD ds v ∧ 0 ≤ dsI ds v := by
  obtain ⟨i, h1, h2, h3⟩ := dsI_at h.hN (h.hK v hv)
  have h4 := dsM_of h.hN (List.mem_of_getElem? h2)
  rw [h3] at h4
  exact ⟨h3, h4, dV_get h1 h2, by omega⟩
theorem Base.isD (h : Base vs es s ds) (hb : ∀ p ∈ es, p.2.2.2 < 4294967296) (hn : d.length = (sorted vs).length) (h1 : SndD (sorted vs) (es.map adE) s d) (h2 : ClsD (sorted vs) (es.map adE) es.length d) : IsD (es.map adE) s (dAt (sorted vs) d) := by
  obtain ⟨zD, zE, z1, zU, zS, zA⟩ := tcode_zero h.z
  refine isD_of h.up zS (fun p hp => ?_) hn h1 (by rw [List.length_map]; exact h2) (fun p hp => ?_)
  · obtain ⟨x, hx, rfl⟩ := List.mem_map.1 hp
    exact zU x hx
  · obtain ⟨x, hx, rfl⟩ := List.mem_map.1 hp
    exact admR_lt (hb x hx)
theorem zip_at (hs : (sorted vs).Pairwise (· < ·)) (hn : d.length = (sorted vs).length) {v : Int} (hv : v ∈ sorted vs) : ∃ c, d[place (sorted vs) v]? = some c ∧ (v, c) ∈ (sorted vs).zip d := by
  obtain ⟨i, hi, he, hp⟩ := mem_place hs hv
  have hid : i < d.length := by omega
  refine ⟨d[i], by rw [hp, List.getElem?_eq_getElem hid], ?_⟩
  refine List.mem_of_getElem? (i := i) ?_
  rw [List.getElem?_zip_eq_some]
  exact ⟨by rw [List.getElem?_eq_getElem hi, he], List.getElem?_eq_getElem hid⟩
theorem zip_mem (hs : (sorted vs).Pairwise (· < ·)) {p : Int × Nat} (hp : p ∈ (sorted vs).zip d) : p.1 ∈ sorted vs ∧ d[place (sorted vs) p.1]? = some p.2 := by
  obtain ⟨i, hi⟩ := List.mem_iff_getElem?.1 hp
  obtain ⟨v, c⟩ := p
  rw [List.getElem?_zip_eq_some] at hi
  obtain ⟨h1, h2⟩ := hi
  have hm := List.mem_of_getElem? h1
  obtain ⟨h3, h4⟩ := List.getElem?_eq_some_iff.1 h1
  refine ⟨hm, ?_⟩
  have := place_at (sorted vs) i hs h3
  rw [h4] at this
  rw [this]
  exact h2
theorem way_go (h : Base vs es s ds) {n : Nat} {F : Int → Prop} (hF : ∀ v, F v → v ∈ sorted vs ∧ (dD ds v).2.1 = false) (hown : ∀ v ∈ sorted vs, ownB s ds es (dD ds v) = true) : ∀ (k f : Nat) (u : Int) (acc : List Int), Back (nextU ds es) s k u → F u → (∀ v, F v → v ≠ s → F (nextU ds es v)) → k < f → acc.length + k ≤ n + 1 → ∃ q, wayL (es.map adE) ds s n f u acc = some (q ++ acc) ∧ costF (es.map adE) 0 q = (dD ds u).2.2.1
  | k, 0, _, _, _, _, _, hf, _ => by omega
  | 0, f + 1, u, acc, hb, hu, _, _, _ => by
    have hus : u = s := hb
    refine ⟨[], by rw [wayL, if_pos hus, List.nil_append], ?_⟩
    obtain ⟨hm, hfar⟩ := hF u hu
    rcases (own_iff (h.key hm).1).1 (hown u hm) with ⟨_, _, h0, _⟩ | ⟨h1, _⟩ | ⟨h1, _⟩
    · rw [h0]
      rfl
    · exact absurd hus h1
    · exact absurd hus h1
  | k + 1, f + 1, u, acc, hb, hu, hN, hf, hl => by
    obtain ⟨hm, hfar⟩ := hF u hu
    obtain ⟨zD, zE, z1, zU, zS, zA⟩ := tcode_zero h.z
    rcases (own_iff (h.key hm).1).1 (hown u hm) with ⟨h1, _⟩ | ⟨_, h1, _⟩ | ⟨hus, _, x, hx, hxv, hxf, hbits⟩
    · exact absurd h1 hb.1
    · rw [hfar] at h1
      cases h1
    · have hnx : nextU ds es u = x.2.1 := by
        unfold nextU eD
        rw [hx]
        rfl
      obtain ⟨q, hq, hc⟩ := way_go (n := n) h hF hown k f (nextU ds es u) ((dD ds u).2.2.2 :: acc) hb.2 (hN u hu hus) hN (by omega) (by rw [List.length_cons]; omega)
      refine ⟨q ++ [(dD ds u).2.2.2], ?_, ?_⟩
      · rw [wayL, if_neg hus, find_adE, hx]
        have : (if (adE x).2.2.1 = u ∧ acc.length ≤ n then wayL (es.map adE) ds s n f (adE x).2.1 ((dD ds u).2.2.2 :: acc) else none) = some (q ++ [(dD ds u).2.2.2] ++ acc) := by
          rw [if_pos ⟨hxv, by omega⟩]
          rw [hnx] at hq
          rw [List.append_assoc]
          exact hq
        exact this
      · rw [costF_snoc, hc, hnx, hbits]
        unfold eD
        rw [find_adE, hx]
        exact add_adm (zA x (List.mem_of_find?_eq_some hx))
theorem ref_of_tree (hz : tcode (sorted vs) es s = 0) (hlen : ds.length = vs.length) (hb : ∀ p ∈ es, p.2.2.2 < 4294967296) (hn : d.length = (sorted vs).length) (h1 : SndD (sorted vs) (es.map adE) s d) (h2 : ClsD (sorted vs) (es.map adE) es.length d) (ht : treeB vs es s ds = true) : ((sorted vs).zip d).all (claimB s ds) = true ∧ ((sorted vs).zip d).all (wayOk (es.map adE) s vs.length ds) = true := by
  obtain ⟨zD, zE, z1, zU, zS, zA⟩ := tcode_zero hz
  have hp : (sorted vs).Perm vs := List.mergeSort_perm _ _
  unfold treeB at ht
  simp only [Bool.and_eq_true, decide_eq_true_eq, List.all_eq_true] at ht
  obtain ⟨⟨⟨_, hall⟩, hq⟩, hbk⟩ := ht
  have hkey : ∀ v ∈ sorted vs, v ∈ ds.map (·.1) := fun v hv => by
    have := (hall v (hp.mem_iff.1 hv)).1
    obtain ⟨x, hx⟩ := Option.isSome_iff_exists.1 this
    unfold dsM at hx
    have h3 := List.mem_of_find?_eq_some hx
    have h4 := List.find?_some hx
    exact List.mem_map.2 ⟨x, List.mem_reverse.1 h3, of_decide_eq_true h4⟩
  have hperm := perm_of_allI (sorted vs) (ds.map (·.1)) zD hkey (by rw [List.length_map, hlen]; exact sorted_length vs)
  have h : Base vs es s ds := ⟨hz, hperm.nodup_iff.1 zD, hkey⟩
  have hown : ∀ v ∈ sorted vs, ownB s ds es (dD ds v) = true := fun v hv => (hall v (hp.mem_iff.1 hv)).2
  have hF : ∀ v, (v ∈ sorted vs ∧ (dD ds v).2.1 = false) → v ≠ s → nextU ds es v ∈ sorted vs ∧ (dD ds (nextU ds es v)).2.1 = false := fun v hv hvs => by
    rcases (own_iff (h.key hv.1).1).1 (hown v hv.1) with ⟨h3, _⟩ | ⟨_, h3, _⟩ | ⟨_, _, x, hx, hxv, hxf, hbits⟩
    · exact absurd h3 hvs
    · rw [hv.2] at h3
      cases h3
    · have : nextU ds es v = x.2.1 := by
        unfold nextU eD
        rw [hx]
        rfl
      rw [this]
      exact ⟨(zU x (List.mem_of_find?_eq_some hx)).1, hxf⟩
  have hback : ∀ v, (v ∈ sorted vs ∧ (dD ds v).2.1 = false) → ∃ k, Back (nextU ds es) s k v := fun v hv => back_of (F := fun v => v ∈ sorted vs ∧ (dD ds v).2.1 = false) (fun v hv => hv.2) hF vs [s] hbk (List.mem_singleton.2 rfl) (fun g hg _ => ⟨0, List.mem_singleton.1 hg⟩) (fun v hv hf => ⟨hp.mem_iff.2 hv, hf⟩) v (hp.mem_iff.1 hv.1) hv
  have hsown : (dD ds s).2.1 = false ∧ (dD ds s).2.2.1 = 0 ∧ (dD ds s).2.2.2 = 0 := by
    rcases (own_iff (h.key zS).1).1 (hown s zS) with ⟨_, h3⟩ | ⟨h3, _⟩ | ⟨h3, _⟩
    · exact h3
    · exact absurd rfl h3
    · exact absurd rfl h3
  have hwk : ∀ (k : Nat) (v : Int), Back (nextU ds es) s k v → (v ∈ sorted vs ∧ (dD ds v).2.1 = false) → Wk (es.map adE) s v (dD ds v).2.2.1 := fun k => by
    induction k with
    | zero =>
      intro v hv hm
      have : v = s := hv
      rw [this, hsown.2.1]
      exact .nil
    | succ k ih =>
      intro v hv hm
      rcases (own_iff (h.key hm.1).1).1 (hown v hm.1) with ⟨h3, _⟩ | ⟨_, h3, _⟩ | ⟨hvs, _, x, hx, hxv, hxf, hbits⟩
      · exact absurd h3 hv.1
      · rw [hm.2] at h3
        cases h3
      · have hnx : nextU ds es v = x.2.1 := by
          unfold nextU eD
          rw [hx]
          rfl
        have hxm := List.mem_of_find?_eq_some hx
        have := ih _ hv.2 (hF v hm hvs)
        rw [hnx] at this
        rw [hbits, ← add_adm (zA x hxm)]
        have hme : ((adE x).1, x.2.1, v, admR x.2.2.2) ∈ es.map adE := List.mem_map.2 ⟨x, hxm, by unfold adE; rw [← hxv]⟩
        exact .step this hme (admR_lt (hb x hxm))
  have hD : IsD (es.map adE) s (fun v => if v ∈ sorted vs ∧ (dD ds v).2.1 = false then some (dD ds v).2.2.1 else none) := by
    refine ⟨?_, fun v c hv => ?_, fun p hpm c hc => ?_⟩
    · show (if s ∈ sorted vs ∧ (dD ds s).2.1 = false then some (dD ds s).2.2.1 else none) = some 0
      rw [if_pos ⟨zS, hsown.1⟩, hsown.2.1]
    · have hv' : (if v ∈ sorted vs ∧ (dD ds v).2.1 = false then some (dD ds v).2.2.1 else none) = some c := hv
      by_cases hm : v ∈ sorted vs ∧ (dD ds v).2.1 = false
      · rw [if_pos hm] at hv'
        cases hv'
        obtain ⟨k, hk⟩ := hback v hm
        exact hwk k v hk hm
      · rw [if_neg hm] at hv'
        cases hv'
    · obtain ⟨x, hx, rfl⟩ := List.mem_map.1 hpm
      have hc' : (if x.2.1 ∈ sorted vs ∧ (dD ds x.2.1).2.1 = false then some (dD ds x.2.1).2.2.1 else none) = some c := hc
      by_cases hm : x.2.1 ∈ sorted vs ∧ (dD ds x.2.1).2.1 = false
      · rw [if_pos hm] at hc'
        cases hc'
        have hqx := hq x hx
        unfold quietB at hqx
        rw [hm.2] at hqx
        simp only [Bool.false_or, Bool.and_eq_true, Bool.not_eq_true', decide_eq_true_eq] at hqx
        refine ⟨(dD ds x.2.2.1).2.2.1, ?_, ?_⟩
        · show (if x.2.2.1 ∈ sorted vs ∧ (dD ds x.2.2.1).2.1 = false then some (dD ds x.2.2.1).2.2.1 else none) = _
          rw [if_pos ⟨(zU x hx).2, hqx.1⟩]
        · show _ ≤ add32 _ (admR x.2.2.2)
          rw [add_adm (zA x hx)]
          exact hqx.2
      · rw [if_neg hm] at hc'
        cases hc'
  have hone := fun v => (h.isD hb hn h1 h2).one hD v
  have hval : ∀ v ∈ sorted vs, ∀ c, d[place (sorted vs) v]? = some c → (dD ds v).2.1 = decide (c = FAR) ∧ (c ≠ FAR → (dD ds v).2.2.1 = c) := fun v hv c hc => by
    have h3 := hone v
    by_cases hcf : c = FAR
    · refine ⟨?_, fun h => absurd hcf h⟩
      rw [decide_eq_true hcf]
      cases hf : (dD ds v).2.1 with
      | true => rfl
      | false =>
        have h4 : (if v ∈ sorted vs ∧ (dD ds v).2.1 = false then some (dD ds v).2.2.1 else none) = some (dD ds v).2.2.1 := if_pos ⟨hv, hf⟩
        rw [h4] at h3
        have h5 := (dAt_some.1 h3).2
        rw [hc] at h5
        have h6 : c = (dD ds v).2.2.1 := by have := h5.1; cases this; rfl
        exact absurd (h6 ▸ hcf) h5.2
    · have h4 : dAt (sorted vs) d v = some c := dAt_some.2 ⟨hv, hc, hcf⟩
      rw [h4] at h3
      have h3' : some c = (if v ∈ sorted vs ∧ (dD ds v).2.1 = false then some (dD ds v).2.2.1 else none) := h3
      by_cases hm : v ∈ sorted vs ∧ (dD ds v).2.1 = false
      · rw [if_pos hm] at h3'
        cases h3'
        exact ⟨by rw [hm.2, decide_eq_false hcf], fun _ => rfl⟩
      · rw [if_neg hm] at h3'
        cases h3'
  constructor
  · rw [List.all_eq_true]
    intro p hpm
    obtain ⟨hv, hc⟩ := zip_mem h.up hpm
    obtain ⟨v, c⟩ := p
    have hv : v ∈ sorted vs := hv
    have hc : d[place (sorted vs) v]? = some c := hc
    obtain ⟨k1, k2, k3, k4⟩ := h.key hv
    obtain ⟨hfar, hbits⟩ := hval v hv c hc
    unfold claimB
    simp only [k3, decide_eq_true k4, Bool.true_and, Bool.and_eq_true, beq_iff_eq, Bool.not_eq_true']
    refine ⟨hfar, ?_⟩
    unfold badB
    by_cases hcf : c = FAR
    · rw [decide_eq_true hcf] at hfar
      rw [if_pos hfar]
      rcases (own_iff k1).1 (hown v hv) with ⟨_, h3, _⟩ | ⟨_, _, h3, h4⟩ | ⟨_, h3, _⟩
      · rw [hfar] at h3
        cases h3
      · exact decide_eq_false (by simp [h3, h4])
      · rw [hfar] at h3
        cases h3
    · rw [decide_eq_false hcf] at hfar
      rw [if_neg (by rw [hfar]; decide)]
      refine decide_eq_false ?_
      rw [hbits hcf, k1]
      rcases (own_iff k1).1 (hown v hv) with ⟨h3, _, _, h4⟩ | ⟨_, h3, _⟩ | ⟨hvs, _, x, hx, _⟩
      · rintro (hh | hh)
        · exact hh rfl
        · exact hh ⟨fun _ => h3, fun _ => h4⟩
      · rw [hfar] at h3
        cases h3
      · have hne : (dD ds v).2.2.2 ≠ 0 := by
          intro e
          have h5 : decide (x.1 = (dD ds v).2.2.2) = true := List.find?_some (p := fun (p : Ed) => decide (p.1 = (dD ds v).2.2.2)) hx
          have := of_decide_eq_true h5
          have := z1 x (List.mem_of_find?_eq_some hx)
          omega
        rintro (hh | hh)
        · exact hh rfl
        · exact hh ⟨fun e => absurd e hne, fun e => absurd e hvs⟩
  · rw [List.all_eq_true]
    intro p hpm
    obtain ⟨hv, hc⟩ := zip_mem h.up hpm
    obtain ⟨v, c⟩ := p
    have hv : v ∈ sorted vs := hv
    have hc : d[place (sorted vs) v]? = some c := hc
    obtain ⟨hfar, hbits⟩ := hval v hv c hc
    unfold wayOk
    by_cases hcf : c = FAR
    · simp [hcf]
    · rw [decide_eq_false hcf] at hfar
      obtain ⟨k, hk⟩ := hback v ⟨hv, hfar⟩
      have hshort := back_short (F := fun v => v ∈ sorted vs ∧ (dD ds v).2.1 = false) hF (fun v hv => hv.1) hk ⟨hv, hfar⟩
      rw [sorted_length] at hshort
      obtain ⟨q, hq1, hq2⟩ := way_go h (n := vs.length) (F := fun v => v ∈ sorted vs ∧ (dD ds v).2.1 = false) (fun v hv => hv) hown k (vs.length + 2) v [] hk ⟨hv, hfar⟩ hF (by omega) (by rw [List.length_nil]; omega)
      have : wayB (es.map adE) ds s vs.length v c = true := by
        unfold wayB
        rw [hq1, List.append_nil]
        exact decide_eq_true (hq2.trans (hbits hcf))
      rw [this, Bool.or_true]
theorem tree_of_ref (hz : tcode (sorted vs) es s = 0) (hlen : ds.length = vs.length) (hb : ∀ p ∈ es, p.2.2.2 < 4294967296) (hn : d.length = (sorted vs).length) (h1 : SndD (sorted vs) (es.map adE) s d) (h2 : ClsD (sorted vs) (es.map adE) es.length d) (hc1 : ∀ p ∈ (sorted vs).zip d, claimB s ds p = true) (hc2 : ∀ p ∈ (sorted vs).zip d, wayOk (es.map adE) s vs.length ds p = true) : treeB vs es s ds = true := by
  obtain ⟨zD, zE, z1, zU, zS, zA⟩ := tcode_zero hz
  have hp : (sorted vs).Perm vs := List.mergeSort_perm _ _
  have hup : (sorted vs).Pairwise (· < ·) := lt_of_nodup (sorted_rising vs) zD
  have hkey : ∀ v ∈ sorted vs, v ∈ ds.map (·.1) := fun v hv => by
    obtain ⟨c, _, hm⟩ := zip_at hup hn hv
    have h3 := hc1 _ hm
    unfold claimB at h3
    simp only [Bool.and_eq_true, decide_eq_true_eq] at h3
    exact dsI_mem h3.1.1
  have hperm := perm_of_allI (sorted vs) (ds.map (·.1)) zD hkey (by rw [List.length_map, hlen]; exact sorted_length vs)
  have h : Base vs es s ds := ⟨hz, hperm.nodup_iff.1 zD, hkey⟩
  -- what is known of each claim
  have hcl : ∀ v ∈ sorted vs, ∃ c, d[place (sorted vs) v]? = some c ∧ (v, c) ∈ (sorted vs).zip d ∧ (dD ds v).2.1 = decide (c = FAR) ∧ (c = FAR → (dD ds v).2.2.1 = 0 ∧ (dD ds v).2.2.2 = 0) ∧ (c ≠ FAR → (dD ds v).2.2.1 = c ∧ ((dD ds v).2.2.2 = 0 ↔ v = s)) := fun v hv => by
    obtain ⟨c, hc, hm⟩ := zip_at hup hn hv
    obtain ⟨k1, k2, k3, k4⟩ := h.key hv
    have h3 := hc1 _ hm
    unfold claimB at h3
    simp only [k3, Bool.and_eq_true, decide_eq_true_eq, beq_iff_eq, Bool.not_eq_true'] at h3
    obtain ⟨⟨_, h4⟩, h5⟩ := h3
    refine ⟨c, hc, hm, h4, fun hf => ?_, fun hf => ?_⟩
    · unfold badB at h5
      rw [h4, decide_eq_true hf, if_pos rfl] at h5
      have := of_decide_eq_false h5
      by_cases hb0 : (dD ds v).2.2.1 = 0
      · exact ⟨hb0, Decidable.byContradiction fun he => this (.inr he)⟩
      · exact absurd (.inl hb0) this
    · unfold badB at h5
      rw [h4, decide_eq_false hf, if_neg (by decide), k1] at h5
      have := of_decide_eq_false h5
      by_cases hb0 : (dD ds v).2.2.1 = c
      · exact ⟨hb0, Decidable.byContradiction fun he => this (.inr he)⟩
      · exact absurd (.inl hb0) this
  have hs0 : d[place (sorted vs) s]? = some 0 := h1.src
  have hfars : (dD ds s).2.1 = false ∧ (dD ds s).2.2.1 = 0 ∧ (dD ds s).2.2.2 = 0 := by
    obtain ⟨c, hc, _, h3, _, h4⟩ := hcl s zS
    rw [hs0] at hc
    cases hc
    exact ⟨h3, (h4 (by decide)).1, (h4 (by decide)).2.2 rfl⟩
  -- one step of a way
  have hway : ∀ v ∈ sorted vs, (dD ds v).2.1 = false → ∃ f q, wayL (es.map adE) ds s vs.length f v [] = some q ∧ costF (es.map adE) 0 q = (dD ds v).2.2.1 := fun v hv hf => by
    obtain ⟨c, hc, hm, h3, _, h4⟩ := hcl v hv
    have hcf : c ≠ FAR := by
      intro e
      rw [hf, decide_eq_true e] at h3
      cases h3
    have h5 := hc2 _ hm
    unfold wayOk wayB at h5
    rw [show decide ((v, c).2 = FAR) = false from decide_eq_false hcf, Bool.false_or] at h5
    have h5' : (match wayL (es.map adE) ds s vs.length (vs.length + 2) v [] with | none => false | some ks => decide (costF (es.map adE) 0 ks = c)) = true := h5
    cases hw : wayL (es.map adE) ds s vs.length (vs.length + 2) v [] with
    | none => rw [hw] at h5'; cases h5'
    | some q =>
      rw [hw] at h5'
      exact ⟨_, q, hw, (of_decide_eq_true h5').trans (h4 hcf).1.symm⟩
  have hstep : ∀ v ∈ sorted vs, (dD ds v).2.1 = false → v ≠ s → ∃ x, es.find? (fun p => decide (p.1 = (dD ds v).2.2.2)) = some x ∧ x.2.2.1 = v ∧ (dD ds x.2.1).2.1 = false ∧ (dD ds v).2.2.1 = add32 (dD ds x.2.1).2.2.1 x.2.2.2 := fun v hv hf hvs => by
    obtain ⟨f, q, hq, hcost⟩ := hway v hv hf
    cases f with
    | zero => cases hq
    | succ f =>
      rw [wayL, if_neg hvs, find_adE] at hq
      cases hx : es.find? (fun p => decide (p.1 = (dD ds v).2.2.2)) with
      | none => rw [hx] at hq; cases hq
      | some x =>
        rw [hx] at hq
        have hq' : (if (adE x).2.2.1 = v ∧ ([] : List Int).length ≤ vs.length then wayL (es.map adE) ds s vs.length f (adE x).2.1 [(dD ds v).2.2.2] else none) = some q := hq
        by_cases hxv : (adE x).2.2.1 = v ∧ ([] : List Int).length ≤ vs.length
        · rw [if_pos hxv] at hq'
          have hxm := List.mem_of_find?_eq_some hx
          have hu := (zU x hxm).1
          have huf : (dD ds x.2.1).2.1 = false := by
            cases huf : (dD ds x.2.1).2.1 with
            | false => rfl
            | true =>
              exfalso
              obtain ⟨c, _, _, h3, h4, _⟩ := hcl x.2.1 hu
              rw [huf] at h3
              have he := (h4 (of_decide_eq_true h3.symm)).2
              have hus : x.2.1 ≠ s := fun e => by
                rw [e, hfars.1] at huf
                cases huf
              cases f with
              | zero => cases hq'
              | succ f =>
                rw [wayL] at hq'
                have hus' : ¬ (adE x).2.1 = s := hus
                rw [if_neg hus', show (dD ds (adE x).2.1).2.2.2 = 0 from he, find_adE, find_no z1 (Int.le_refl 0)] at hq'
                cases hq'
          obtain ⟨f', q', hq2, hc'⟩ := hway x.2.1 hu huf
          obtain ⟨r, hr1, hr2⟩ := wayL_one _ _ _ _ _ _ _ hq' hq2
          rw [List.append_nil] at hr2
          subst hr2
          refine ⟨x, rfl, hxv.1, huf, ?_⟩
          rw [← hcost, hr1, costF_snoc, hc']
          unfold eD
          rw [find_adE, hx]
          exact add_adm (zA x hxm)
        · rw [if_neg hxv] at hq'
          cases hq'
  have hown : ∀ v ∈ sorted vs, ownB s ds es (dD ds v) = true := fun v hv => by
    rw [own_iff (h.key hv).1]
    by_cases hvs : v = s
    · exact .inl ⟨hvs, hvs ▸ hfars⟩
    · cases hf : (dD ds v).2.1 with
      | true =>
        obtain ⟨c, _, _, h3, h4, _⟩ := hcl v hv
        rw [hf] at h3
        exact .inr (.inl ⟨hvs, rfl, h4 (of_decide_eq_true h3.symm)⟩)
      | false => exact .inr (.inr ⟨hvs, rfl, hstep v hv hf hvs⟩)
  have hF : ∀ v, (v ∈ sorted vs ∧ (dD ds v).2.1 = false) → v ≠ s → nextU ds es v ∈ sorted vs ∧ (dD ds (nextU ds es v)).2.1 = false := fun v hv hvs => by
    obtain ⟨x, hx, hxv, hxf, _⟩ := hstep v hv.1 hv.2 hvs
    have : nextU ds es v = x.2.1 := by
      unfold nextU eD
      rw [hx]
      rfl
    rw [this]
    exact ⟨(zU x (List.mem_of_find?_eq_some hx)).1, hxf⟩
  have hback : ∀ (f : Nat) (v : Int) (a q : List Int), v ∈ sorted vs ∧ (dD ds v).2.1 = false → wayL (es.map adE) ds s vs.length f v a = some q → ∃ k, Back (nextU ds es) s k v := fun f => by
    induction f with
    | zero =>
      intro v a q _ hq
      cases hq
    | succ f ih =>
      intro v a q hv hq
      by_cases hvs : v = s
      · exact ⟨0, hvs⟩
      · obtain ⟨x, hx, hxv, hxf, _⟩ := hstep v hv.1 hv.2 hvs
        have hnx : nextU ds es v = x.2.1 := by
          unfold nextU eD
          rw [hx]
          rfl
        rw [wayL, if_neg hvs, find_adE, hx] at hq
        have hq' : (if (adE x).2.2.1 = v ∧ a.length ≤ vs.length then wayL (es.map adE) ds s vs.length f (adE x).2.1 ((dD ds v).2.2.2 :: a) else none) = some q := hq
        by_cases hc : (adE x).2.2.1 = v ∧ a.length ≤ vs.length
        · rw [if_pos hc] at hq'
          obtain ⟨k, hk⟩ := ih _ _ _ (hnx ▸ hF v hv hvs) hq'
          exact ⟨k + 1, hvs, by rw [hnx]; exact hk⟩
        · rw [if_neg hc] at hq'
          cases hq'
  unfold treeB
  simp only [Bool.and_eq_true, decide_eq_true_eq, List.all_eq_true]
  refine ⟨⟨⟨⟨hz, hlen⟩, fun v hv => ?_⟩, fun x hx => ?_⟩, ?_⟩
  · have hv' := hp.mem_iff.2 hv
    exact ⟨by rw [(h.key hv').2.1]; rfl, hown v hv'⟩
  · unfold quietB
    obtain ⟨a, ha, _, h3, h4, h5⟩ := hcl x.2.1 (zU x hx).1
    obtain ⟨c, hc, _, g3, g4, g5⟩ := hcl x.2.2.1 (zU x hx).2
    by_cases haf : a = FAR
    · rw [h3, decide_eq_true haf]
      rfl
    · have hle := h2 (adE x) (by rw [List.take_of_length_le (by rw [List.length_map]; exact Nat.le_refl _)]; exact List.mem_map.2 ⟨x, hx, rfl⟩) a c ha hc haf
      have hle2 : c ≤ add32 a x.2.2.2 := by
        have : c ≤ add32 a (admR x.2.2.2) := hle
        rwa [add_adm (zA x hx)] at this
      have hcf : c ≠ FAR := by
        intro e
        have h6 := h1.far _ _ ha
        have h7 := (add32_some (a := a) (b := x.2.2.2) (by unfold FAR at h6; omega) (hb x hx)).2
        unfold FAR at e
        omega
      rw [h3, g3, decide_eq_false haf, decide_eq_false hcf, (h5 haf).1, (g5 hcf).1, decide_eq_true hle2]
      rfl
  · refine to_back vs [s] (List.mem_singleton.2 rfl) fun v hv hf => ?_
    have hv' := hp.mem_iff.2 hv
    obtain ⟨f, q, hq, _⟩ := hway v hv' hf
    obtain ⟨k, hk⟩ := hback f v [] q ⟨hv', hf⟩ hq
    have hshort := back_short (F := fun v => v ∈ sorted vs ∧ (dD ds v).2.1 = false) hF (fun v hv => hv.1) hk ⟨hv', hf⟩
    rw [sorted_length] at hshort
    exact ⟨k, by omega, hk⟩
theorem ref_tree {b : Bool} (hb : ∀ p ∈ es, p.2.2.2 < 4294967296) (h : RefTree vs es s ds b) : b = treeB vs es s ds := by
  rcases h with ⟨h1, rfl⟩ | ⟨hz, hlen, d, hn, h1, h2, rfl⟩
  · symm
    unfold treeB
    rcases h1 with h1 | h1
    · rw [decide_eq_false h1]
      rfl
    · rw [decide_eq_false h1, Bool.and_false]
      rfl
  · rw [Bool.eq_iff_iff]
    constructor
    · intro h
      rw [Bool.and_eq_true] at h
      exact tree_of_ref hz hlen hb hn h1 h2 (List.all_eq_true.1 h.1) (List.all_eq_true.1 h.2)
    · intro h
      obtain ⟨h3, h4⟩ := ref_of_tree hz hlen hb hn h1 h2 h
      rw [h3, h4]
      rfl
end
end Go.Proofs.YtgihncjllelonaaGreat.Ce

/- CertTree, walked. -/
namespace Go.Proofs.YtgihncjllelonaaGreat.Ce
open Go Go.RowKit Go.MapKept Go.Proofs.YtgihncjllelonaaGreat.Mem Go.Proofs.YtgihncjllelonaaGreat.Sl Go.Proofs.YtgihncjllelonaaGreat.Lw Go.Proofs.YtgihncjllelonaaGreat.Wt Go.Proofs.YtgihncjllelonaaGreat.Tb Go.Proofs.YtgihncjllelonaaGreat.Scc Go.Proofs.YtgihncjllelonaaGreat.Tj Go.Proofs.YtgihncjllelonaaGreat.Cf Go.Proofs.YtgihncjllelonaaGreatW.PrintWords Go.Proofs.YtgihncjllelonaaGreatW.PrintLast
attribute [local go_sem ↓] Go.wp_at_zero Go.wp_at_succ
set_option linter.unusedSimpArgs false
set_option linter.unusedVariables false
def tb3_4.T4 : Bool × List (List Nat × List Nat) := (true, [([], []), ([], []), ([], []), ([0, 1, 2], [0, 1, 2]), ([], []), ([], []), ([], []), ([4, 5, 6, 3], [4, 5, 6]), ([3, 7], [3, 7]), ([8, 7, 0, 1, 2, 3, 4, 5, 6, 7, 8], [8])])
def tb3_4.B4 : List Nat := [0, 0, 0, 7, 0, 0, 0, 127, 255, 511]
theorem tb3_4.tab4 : rtab .any (opsOf Tryz.f3 4) = tb3_4.T4 := by kernel_rfl
theorem tb3_4.bits4 : waitsOk tb3_4.T4.2 tb3_4.B4 = true := by kernel_rfl
set_option maxHeartbeats 8000000 in
set_option maxRecDepth 100000 in
theorem certTree_calls (w : World) (a1 a2 : Value) (s : Int) (A : Option Addr) (c : Nat) (l : List Int) (es : List Ed) (ds : List Ds) (h1 : ArgV w a1 l.length 1 (ints l)) (h2 : ArgV w a2 es.length 4 (edsC es)) (hbit : ∀ p ∈ es, p.2.2.2 < 4294967296) (h3 : RdS w A ds) (hdb : ∀ p ∈ ds, p.2.2.1 < 4294967296) :
    Calls Tryz.prog 3 #[a1, a2, .agg #[.int .i64 s, .slice A ds.length c]] w fun e w' => e = .returned (.bool true) ∧ Below w.heap.size w w' := by
  obtain ⟨nd, hnd⟩ : ∃ n, ds.length = n := ⟨_, rfl⟩
  rw [hnd]
  have HX0 := Lib.hid (show At (w.alloc (.cells #[.int .i64 s, .slice A nd c] 26)) w.heap.size [.int .i64 s, .slice A nd c] 26 from At.made rfl rfl)
  have HB0 := Lib.hid ((Below.refl w.heap.size w).alloc (Nat.le_refl _) (.cells #[.int .i64 s, .slice A nd c] 26))
  have HH := Lib.hid (And.intro h1 (And.intro h2 (And.intro hbit (And.intro h3 (And.intro hdb hnd)))))
  clear h1 h2 hbit h3 hdb hnd
  go_enter Tryz.func3, Tryz.ntmps3
  go_wp2_with fail
  refine (awake_calls _).mono ?_
  rintro e w1 ⟨rfl, hb1⟩
  have hx1 := HX0.out.below hb1 HX0.out.lt
  have HB1 := Lib.hid (HB0.out.trans (hb1.mono HB0.out.size))
  obtain ⟨gx, hgx⟩ : ∃ g, w.heap.size = g := ⟨_, rfl⟩
  rw [hgx] at hx1 ⊢
  have HX1 := Lib.hid hx1
  have HGX := Lib.hid hgx
  clear hb1 hx1 HX0 HB0 hgx
  go_wp2_with fail
  refine (cutVs_calls w1 a1 l.length (ints l) (HH.out.1.below HB1.out)).mono ?_
  rintro e w2 ⟨v2, rfl, ho2⟩
  have HO2 := Lib.hid ho2
  clear ho2
  go_wp2_with fail
  refine (cutEdges_calls w2 a2 es.length (edsC es) ((HH.out.2.1.below HB1.out).below HO2.out.b)).mono ?_
  rintro e w3 ⟨v3, rfl, ho3⟩
  obtain ⟨L, hL⟩ : ∃ L, l.take 30 = L := ⟨_, rfl⟩
  obtain ⟨E, hE⟩ : ∃ E, es.take 120 = E := ⟨_, rfl⟩
  obtain ⟨nL, hnL⟩ : ∃ n, L.length = n := ⟨_, rfl⟩
  obtain ⟨nE, hnE⟩ : ∃ n, E.length = n := ⟨_, rfl⟩
  have hLn : nL ≤ 30 := by rw [← hnL, ← hL, List.length_take]; omega
  have hEn : nE ≤ 120 := by rw [← hnE, ← hE, List.length_take]; omega
  have hLe : min l.length 30 = nL := by rw [← hnL, ← hL, List.length_take]; omega
  have hEe : min es.length 120 = nE := by rw [← hnE, ← hE, List.length_take]; omega
  have ho2 := HO2.out.r
  have ho3' := ho3.r
  rw [Nat.mul_one, ints_take, min_take, hL, hLe] at ho2
  rw [edsC_take, min_take, hE, hEe] at ho3'
  obtain ⟨A2, c2, rfl⟩ := Lw.own_slice ho2
  obtain ⟨A3, c3, rfl⟩ := Lw.own_slice ho3'
  have hrv := (RdI.of_own ho2).1
  have hra := (RdD.of_own ho3').1
  have hb13 := HO2.out.b.trans (ho3.b.mono HO2.out.b.size)
  have hbE : ∀ p ∈ E, p.2.2.2 < 4294967296 := fun p hp => HH.out.2.2.1 p (by rw [← hE] at hp; exact List.mem_of_mem_take hp)
  have HB3 := Lib.hid (HB1.out.trans (hb13.mono HB1.out.size))
  have hX3 := HX1.out.below hb13 HX1.out.lt
  obtain ⟨tb, htb⟩ : ∃ b, treeB L E s ds = b := ⟨_, rfl⟩
  obtain ⟨wd, hwd⟩ : ∃ wd, w3.drew = wd := ⟨_, rfl⟩
  have hbd : Below w3.heap.size w3 wd := by rw [← hwd]; exact (Below.refl _ _).drew
  have HTR := Lib.hid (show ∀ W, Below wd.heap.size wd W → Calls Tryz.prog 10 #[.slice A2 nL c2, .slice A3 nE c3, .agg #[.int .i64 s, .slice A nd c]] W fun e w' => e = .returned (.bool tb) ∧ Below W.heap.size W w' from fun W hW => by
    have hw := hbd.trans (hW.mono hbd.size)
    have := tree_calls W A2 A3 A c2 c3 c L E ds s ((hrv.below ho3.b).below hw) (hra.below hw) ((HH.out.2.2.2.1.below HB3.out).below hw) (by omega) (by omega) hbE HH.out.2.2.2.2.1
    rw [hnL, hnE, HH.out.2.2.2.2.2, htb] at this
    exact this)
  have HRF := Lib.hid (show ∀ W, Below wd.heap.size wd W → Calls Tryz.prog 11 #[.slice A2 nL c2, .slice A3 nE c3, .agg #[.int .i64 s, .slice A nd c]] W fun e w' => e = .returned (.bool tb) ∧ Below W.heap.size W w' from fun W hW => by
    have hw := hbd.trans (hW.mono hbd.size)
    have := reftree_calls W A2 A3 A c2 c3 c L E ds s ((hrv.below ho3.b).below hw) (hra.below hw) ((HH.out.2.2.2.1.below HB3.out).below hw) (by omega) (by omega) hbE
    rw [hnL, hnE, HH.out.2.2.2.2.2] at this
    refine this.mono fun e w' ⟨b, h1, h2, h3⟩ => ⟨?_, h3⟩
    rw [h1, ref_tree hbE h2.out, htb])
  have x0 := keep_at hbd (hX3.cell 0 rfl)
  have x1 := keep_at hbd (hX3.cell 1 rfl)
  have HBD := Lib.hid (HB3.out.trans (hbd.mono HB3.out.size))
  clear ho2 ho3 ho3' hrv hra hb13 HO2 HB1 HX1 HH hL hE hnL hnE hLe hEe hbE hX3 htb hbd HB3
  go_upto_region 4 with (fail)
  refine start_ (n := 10) (S := fun w' => w'.cell? ⟨gx, 0, none⟩ = some (.int .i64 s) ∧ w'.cell? ⟨gx, 1, none⟩ = some (.slice A nd c)) (ds := []) (bA 10 0) (by kernel_rfl) rfl rfl ⟨(by rw [hwd]; exact x0), (by rw [hwd]; exact x1)⟩ (fun hHeld => ?_)
  rw [hwd] at hHeld ⊢
  refine with_tabW tb3_4.tab4 tb3_4.bits4 (fun HT_ HW_ => ?_)
  refine pw_ 0 13 (bA 10 1) HT_.out ?_
  refine pw_ 1 14 (bA 10 3) HT_.out ?_
  refine pw_ 4 17 (bA 10 19) HT_.out ?_
  refine pw_ 5 18 (bA 10 51) HT_.out ?_
  refine tw_ 2 15 (bA 10 55) HT_.out HW_.out hHeld (hv := by rintro w' ⟨s0, s1⟩; go_simp; with_reducible rfl) (h := ?_)
  refine tw_ 6 19 (bA 10 119) HT_.out HW_.out hHeld (hv := by rintro w' ⟨s0, s1⟩; go_simp; with_reducible rfl) (h := ?_)
  refine one_ (i := 3) (N := some 16) (bA 10 127) rfl rfl (one_of HT_.out (by kernel_rfl)) (by decide) (fun K hK => ?_)
  refine gw_ Tryz.func10 #[.slice A2 nL c2, .slice A3 nE c3, .agg #[.int .i64 s, .slice A nd c]] ?_
  with_reducible refine ((HTR.out wd (Below.refl _ _))).mono ?_
  rintro e wa ⟨rfl, hb_wa⟩
  refine ⟨_, rfl, ?_⟩
  refine hK.out _ _ ⟨(keep_at hb_wa x0), (keep_at hb_wa x1)⟩ (fun hHeld => ?_)
  clear hK K
  refine norm_ (a' := ?_) ?_ ?_
  rotate_left
  · show Act.put _ (some 16) _ = _
    simp only [Act.put, pA, pB, pC, pD, pE]; rfl
  refine one_ (i := 7) (N := some 20) (bA 10 255) rfl rfl (one_of HT_.out (by kernel_rfl)) (by decide) (fun K hK => ?_)
  refine gw_ Tryz.func11 #[.slice A2 nL c2, .slice A3 nE c3, .agg #[.int .i64 s, .slice A nd c]] ?_
  with_reducible refine ((HRF.out wa hb_wa)).mono ?_
  rintro e wb ⟨rfl, hb_wb⟩
  refine ⟨_, rfl, ?_⟩
  refine hK.out _ _ ⟨(keep_at hb_wb (keep_at hb_wa x0)), (keep_at hb_wb (keep_at hb_wa x1))⟩ (fun hHeld => ?_)
  clear hK K
  refine norm_ (a' := ?_) ?_ ?_
  rotate_left
  · show Act.put _ (some 20) _ = _
    simp only [Act.put, pA, pB, pC, pD, pE]; rfl
  refine pw_ 8 21 (bA 10 511) HT_.out ?_
  refine pw_ 9 6 (bA 10 1023) HT_.out ?_
  refine done_ (done_of HT_.out (by kernel_rfl)) ?_
  clear hHeld HT_ HW_
  have HBF := Lib.hid (HBD.out.trans ((hb_wa.trans (hb_wb.mono hb_wa.size)).mono HBD.out.size))
  clear hb_wa hb_wb HTR HRF HBD x0 x1 hwd
  cases tb with
  | true =>
    go_wp2
    go_ret
    exact ⟨rfl, by first | exact HBF.out | (rw [← HGX.out]; exact HBF.out)⟩
  | false =>
    go_wp2
    go_ret
    exact ⟨rfl, by first | exact HBF.out | (rw [← HGX.out]; exact HBF.out)⟩
end Go.Proofs.YtgihncjllelonaaGreat.Ce
