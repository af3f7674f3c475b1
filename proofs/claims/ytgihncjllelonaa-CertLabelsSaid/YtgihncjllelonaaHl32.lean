/- brambleref15: label; brambleref12: In. -/
import Derived.Test.YtgihncjllelonaaHl31
import Derived.Test.YtgihncjllelonaaHl30
import Derived.Test.YtgihncjllelonaaHl29
namespace Go.Proofs.Ytgihncjllelonaa.Ce
open Go Go.RowKit Go.MapKept Go.Proofs.Ytgihncjllelonaa.Mem Go.Proofs.Ytgihncjllelonaa.Sl Go.Proofs.Ytgihncjllelonaa.Lw Go.Proofs.Ytgihncjllelonaa.Om Go.Proofs.Ytgihncjllelonaa.Tb Go.Proofs.Ytgihncjllelonaa.Scc Go.Proofs.Ytgihncjllelonaa.Tj Go.Proofs.YtgihncjllelonaaW.PrintWords Go.Proofs.YtgihncjllelonaaW.PrintLast
attribute [local go_sem ↓] Go.wp_at_zero Go.wp_at_succ
set_option linter.unusedSimpArgs false
set_option linter.unusedVariables false

def labG (v : Int) : List Lb → Nat → Int → Int
  | [], _, at_ => at_
  | l :: r, j, at_ => if l.1 = v then (if 0 ≤ at_ then -1 else labG v r (j + 1) j) else labG v r (j + 1) at_
def labI (ls : List Lb) (v : Int) : Int := labG v ls 0 (-1)
set_option maxHeartbeats 8000000 in
set_option maxRecDepth 100000 in
theorem label_calls (w : World) (A : Option Addr) (c : Nat) (ls : List Lb) (v : Int) (h : RdLb w A ls) (hl : ls.length ≤ 400) : Calls Try.prog 36 #[.slice A ls.length c, .int .i64 v] w fun e w' => e = .returned (.int .i64 (labI ls v)) ∧ w' = w := by
  obtain ⟨n, hn⟩ : ∃ n, ls.length = n := ⟨_, rfl⟩
  obtain ⟨ans, hans⟩ : ∃ a, labI ls v = a := ⟨_, rfl⟩
  rw [hn] at hl
  rw [hn, hans]
  have HX := Lib.hid (And.intro h (And.intro hn hans))
  clear h hn hans
  go_enter Try.func36, Try.ntmps36
  go_wp2_with fail
  go_loopg [5, 6] n (fun kq v5 v6 w' => ∃ (j : Nat) (a : Int), v5 = .int .i64 a ∧ v6 = .int .i64 (j : Int) ∧ Hid (j + kq = n ∧ w' = w ∧ labG v (ls.drop j) j a = ans))
  case atStart => exact ⟨0, -1, rfl, rfl, Lib.hid ⟨by omega, rfl, HX.out.2.2⟩⟩
  case round =>
    obtain ⟨j, a, rfl, rfl, hJ⟩ := hrel
    obtain ⟨hjk, rfl, hS⟩ := hJ.out
    clear hJ
    by_cases hj : j < n
    · obtain ⟨k1, rfl⟩ : ∃ k1, gk = k1 + 1 := ⟨gk - 1, by omega⟩
      obtain ⟨⟨u, p, rs⟩, hx⟩ : ∃ x, ls[j]? = some x := ⟨_, List.getElem?_eq_getElem (by have := HX.out.2.1; omega)⟩
      have hdx : ls.drop j = (u, p, rs) :: ls.drop (j + 1) := by
        obtain ⟨e1, e2⟩ := List.getElem?_eq_some_iff.1 hx
        rw [← e2]
        exact (List.getElem_cons_drop e1).symm
      obtain ⟨g, off, Ar, cr, hA, x0, x1, x2, hra, hrl⟩ := HX.out.1 j u p rs hx
      subst hA
      have j0 : (0 : Int) ≤ (j : Int) := by omega
      have j1 : (j : Int) < (n : Int) := by omega
      have j2 : (n : Int) ≤ 400 := by omega
      rw [hdx, labG] at hS
      clear hdx hx x1 x2 hra hrl
      by_cases huv : u = v
      · rw [if_pos huv] at hS
        have q1 : ((u : Int) == v) = true := by rw [huv]; simp
        by_cases ha : 0 ≤ a
        · rw [if_pos ha] at hS
          have q2 : a ≥ 0 := ha
          have HN := Lib.hid hS
          clear hS hjk huv ha hj
          go_wp2
          go_ret
          exact ⟨by rw [← HN.out]; rfl, rfl⟩
        · rw [if_neg ha] at hS
          have q2 : ¬ a ≥ 0 := ha
          have HN := Lib.hid (And.intro hjk hS)
          clear hS hjk huv ha hj
          go_wp2
          go_roundg k1
          case measure => omega
          case rel => exact ⟨j + 1, (j : Int), rfl, by go_num, Lib.hid ⟨by have := HN.out.1; omega, rfl, HN.out.2⟩⟩
      · rw [if_neg huv] at hS
        have q1 : ((u : Int) == v) = false := beq_eq_false_iff_ne.2 huv
        have HN := Lib.hid (And.intro hjk hS)
        clear hS hjk huv hj
        go_wp2
        go_roundg k1
        case measure => omega
        case rel => exact ⟨j + 1, a, rfl, by go_num, Lib.hid ⟨by have := HN.out.1; omega, rfl, HN.out.2⟩⟩
    · obtain rfl : j = n := by omega
      have jn : ¬ ((j : Int) < (j : Int)) := by omega
      have hd : ls.drop j = [] := List.drop_eq_nil_of_le (by have := HX.out.2.1; omega)
      rw [hd, labG] at hS
      have HN := Lib.hid hS
      clear hS hjk hj hd
      go_wp2
      go_ret
      exact ⟨by rw [← HN.out]; rfl, rfl⟩
set_option maxHeartbeats 8000000 in
set_option maxRecDepth 100000 in
theorem in12_calls (w : World) (A : Option Addr) (c : Nat) (rs : List (Int × Int)) (x : Int) (h : RdAO w A rs) (hl : rs.length ≤ 9223372036854775807) : Calls Try.prog 37 #[.slice A rs.length c, .int .i64 x] w fun e w' => e = .returned (.bool (rs.any (inSp x))) ∧ w' = w := by
  obtain ⟨n, hn⟩ : ∃ n, rs.length = n := ⟨_, rfl⟩
  obtain ⟨ans, hans⟩ : ∃ a, rs.any (inSp x) = a := ⟨_, rfl⟩
  rw [hn] at hl
  rw [hn, hans]
  have HX := Lib.hid (And.intro h (And.intro hn hans))
  clear h hn hans
  go_enter Try.func37, Try.ntmps37
  go_wp2_with fail
  go_loopg [5] n (fun kq v5 w' => ∃ j : Nat, v5 = .int .i64 (j : Int) ∧ Hid (j + kq = n ∧ w' = w ∧ (rs.drop j).any (inSp x) = ans))
  case atStart => exact ⟨0, rfl, Lib.hid ⟨by omega, rfl, HX.out.2.2⟩⟩
  case round =>
    obtain ⟨j, rfl, hJ⟩ := hrel
    obtain ⟨hjk, rfl, hS⟩ := hJ.out
    clear hJ
    by_cases hj : j < n
    · obtain ⟨k1, rfl⟩ : ∃ k1, gk = k1 + 1 := ⟨gk - 1, by omega⟩
      obtain ⟨⟨lo, hi⟩, hx⟩ : ∃ x, rs[j]? = some x := ⟨_, List.getElem?_eq_getElem (by have := HX.out.2.1; omega)⟩
      have hdx : rs.drop j = (lo, hi) :: rs.drop (j + 1) := by
        obtain ⟨e1, e2⟩ := List.getElem?_eq_some_iff.1 hx
        rw [← e2]
        exact (List.getElem_cons_drop e1).symm
      obtain ⟨g, off, hA, x0, x1⟩ := HX.out.1 j lo hi hx
      subst hA
      have j0 : (0 : Int) ≤ (j : Int) := by omega
      have j1 : (j : Int) < (n : Int) := by omega
      have j2 : j + 1 ≤ 9223372036854775807 := by omega
      rw [hdx, List.any_cons] at hS
      clear hdx hx
      by_cases h1 : lo ≤ x
      · by_cases h2 : x ≤ hi
        · have HN := Lib.hid (show true = ans from by rw [← hS]; simp [inSp, h1, h2])
          clear hS hjk hj
          go_wp2
          go_ret
          exact ⟨by rw [← HN.out]; rfl, rfl⟩
        · have HN := Lib.hid (And.intro hjk (show (rs.drop (j + 1)).any (inSp x) = ans from by rw [← hS]; simp [inSp, h2]))
          clear hS hjk hj
          go_wp2
          go_roundg k1
          case measure => omega
          case rel => exact ⟨j + 1, by go_num, Lib.hid ⟨by have := HN.out.1; omega, rfl, HN.out.2⟩⟩
      · have HN := Lib.hid (And.intro hjk (show (rs.drop (j + 1)).any (inSp x) = ans from by rw [← hS]; simp [inSp, h1]))
        clear hS hjk hj
        go_wp2
        go_roundg k1
        case measure => omega
        case rel => exact ⟨j + 1, by go_num, Lib.hid ⟨by have := HN.out.1; omega, rfl, HN.out.2⟩⟩
    · obtain rfl : j = n := by omega
      have jn : ¬ ((j : Int) < (j : Int)) := by omega
      have hd : rs.drop j = [] := List.drop_eq_nil_of_le (by have := HX.out.2.1; omega)
      rw [hd] at hS
      have HN := Lib.hid (show false = ans from hS)
      clear hS hjk hj hd
      go_wp2
      go_ret
      exact ⟨by rw [← HN.out]; rfl, rfl⟩
end Go.Proofs.Ytgihncjllelonaa.Ce

/- Plain: labels that say who reaches whom. -/
namespace Go.Proofs.Ytgihncjllelonaa.Ce
open Go Go.Proofs.Ytgihncjllelonaa.Tj Go.Proofs.Ytgihncjllelonaa.Sl Go.Proofs.Ytgihncjllelonaa.Lw
set_option linter.unusedVariables false

theorem perm_of_allI : ∀ (gs C : List Int), gs.Nodup → (∀ g ∈ gs, g ∈ C) → gs.length = C.length → gs.Perm C
  | [], C, _, _, h => by
    have : C = [] := List.length_eq_zero_iff.1 h.symm
    rw [this]
  | g :: gs, C, hn, hm, h => by
    rw [List.nodup_cons] at hn
    have hg := hm g List.mem_cons_self
    have hp := List.perm_cons_erase hg
    have hl := List.length_erase_of_mem hg
    have ih := perm_of_allI gs (C.erase g) hn.2 (fun x hx => (List.mem_erase_of_ne (fun e : x = g => hn.1 (by rw [← e]; exact hx))).2 (hm x (List.mem_cons_of_mem _ hx))) (by
      rw [hl, ← h]
      rfl)
    exact (ih.cons g).trans hp.symm
theorem labG_not {v : Int} : ∀ (ls : List Lb) (j : Nat) (a : Int), v ∉ ls.map (·.1) → labG v ls j a = a
  | [], _, _, _ => rfl
  | l :: r, j, a, h => by
    rw [List.map_cons, List.mem_cons, not_or] at h
    rw [labG, if_neg (fun e => h.1 e.symm), labG_not r (j + 1) a h.2]
theorem labG_one {v : Int} : ∀ (ls : List Lb) (j i : Nat) (p : Int) (rs : List (Int × Int)), (ls.map (·.1)).Nodup → ls[i]? = some (v, p, rs) → labG v ls j (-1) = ((j + i : Nat) : Int)
  | [], _, _, _, _, _, h => by simp at h
  | l :: r, j, 0, p, rs, hn, h => by
    rw [List.map_cons, List.nodup_cons] at hn
    cases h
    rw [labG, if_pos rfl, if_neg (by omega), labG_not r (j + 1) _ hn.1]
    rfl
  | l :: r, j, i + 1, p, rs, hn, h => by
    rw [List.map_cons, List.nodup_cons] at hn
    have h : r[i]? = some (v, p, rs) := by simpa using h
    have hm : v ∈ r.map (·.1) := List.mem_map.2 ⟨_, List.mem_of_getElem? h, rfl⟩
    rw [labG, if_neg (fun e : l.1 = v => hn.1 (by rw [e]; exact hm)), labG_one r (j + 1) i p rs hn.2 h]
    congr 1
    omega
theorem labI_mem {ls : List Lb} {v : Int} (h : 0 ≤ labI ls v) : v ∈ ls.map (·.1) := by
  by_cases hm : v ∈ ls.map (·.1)
  · exact hm
  · unfold labI at h
    rw [labG_not ls 0 (-1) hm] at h
    omega
def labV (ls : List Lb) (v : Int) : Lb := (ls[(labI ls v).toNat]?).getD (0, 0, [])
section
variable {ls : List Lb} {vs : List Int} {i : Nat} {v p : Int} {rs : List (Int × Int)}
theorem labI_of (hn : (ls.map (·.1)).Nodup) (h : ls[i]? = some (v, p, rs)) : labI ls v = (i : Int) := by
  unfold labI
  rw [labG_one ls 0 i p rs hn h, Nat.zero_add]
theorem labV_of (hn : (ls.map (·.1)).Nodup) (h : ls[i]? = some (v, p, rs)) : labV ls v = (v, p, rs) := by
  unfold labV
  rw [labI_of hn h]
  simp [h]
theorem pM_of (hn : (ls.map (·.1)).Nodup) (h : ls[i]? = some (v, p, rs)) : pM ls v = some p := by
  unfold pM
  have hm := List.mem_of_getElem? h
  cases hf : ls.reverse.find? fun q => decide (q.1 = v) with
  | none =>
    have := List.find?_eq_none.1 hf (v, p, rs) (List.mem_reverse.2 hm)
    simp at this
  | some q =>
    have h1 := List.mem_reverse.1 (List.mem_of_find?_eq_some hf)
    have h2 : q.1 = v := by simpa using List.find?_some hf
    obtain ⟨j, hj, rfl⟩ := List.getElem_of_mem h1
    obtain ⟨hi, he⟩ := List.getElem?_eq_some_iff.1 h
    have hij : j = i := by
      have hd := List.pairwise_iff_getElem.1 hn
      rcases Nat.lt_trichotomy i j with hlt | e | hlt
      · have := hd i j (by simpa using hi) (by simpa using hj) hlt
        simp only [List.getElem_map] at this
        rw [he, h2] at this
        exact absurd rfl this
      · exact e.symm
      · have := hd j i (by simpa using hj) (by simpa using hi) hlt
        simp only [List.getElem_map] at this
        rw [he, h2] at this
        exact absurd rfl this
    subst hij
    rw [he]
    rfl
theorem keys_perm (hv : vs.Nodup) (hl : ls.length = vs.length) (h : ∀ v ∈ vs, v ∈ ls.map (·.1)) : (ls.map (·.1)).Nodup ∧ ∀ x, x ∈ ls.map (·.1) ↔ x ∈ vs := by
  have hp := perm_of_allI vs (ls.map (·.1)) hv h (by rw [List.length_map, hl])
  exact ⟨hp.nodup hv, fun x => hp.mem_iff.symm⟩
end
def RefLab (sl : List Int) (E : Nat → Nat → Prop) (ls : List Lb) : Prop := (∀ v ∈ sl, 0 ≤ labI ls v) ∧ ∀ i j, i < sl.length → j < sl.length → (labV ls (sl.getD i 0)).2.2.any (inSp (labV ls (sl.getD j 0)).2.1) = rB E i j
theorem lab_ref {vs : List Int} {arcs : List (Int × Int)} {ls : List Lb} (hs : (sorted vs).Pairwise (· < ·)) (hg : good (sorted vs) arcs = true) (hl : ls.length = vs.length) : LabOk 0 vs arcs ls ↔ RefLab (sorted vs) (PE (sorted vs) arcs) ls := by
  have hp : (sorted vs).Perm vs := List.mergeSort_perm vs _
  have hnd : vs.Nodup := hp.nodup_iff.1 (hs.imp fun h => by intro e; omega)
  have hbool : ∀ i j, i < (sorted vs).length → j < (sorted vs).length → (rB (PE (sorted vs) arcs) i j = true ↔ Cl (fun x y => (x, y) ∈ arcs) ((sorted vs).getD i 0) ((sorted vs).getD j 0)) := fun i j hi hj => by
    have e1 : (sorted vs).getD i 0 = (sorted vs)[i] := by rw [List.getD_eq_getElem?_getD, List.getElem?_eq_getElem hi]; rfl
    have e2 : (sorted vs).getD j 0 = (sorted vs)[j] := by rw [List.getD_eq_getElem?_getD, List.getElem?_eq_getElem hj]; rfl
    rw [e1, e2, ← rch_cl hs hg (List.getElem_mem hi) (List.getElem_mem hj), place_at _ i hs hi, place_at _ j hs hj]
    exact rB_iff
  constructor
  · intro h
    have hk : ∀ v ∈ vs, v ∈ ls.map (·.1) := fun v hv => by
      have := h.2.2.1 v hv
      unfold pM at this
      cases hf : ls.reverse.find? fun q => decide (q.1 = v) with
      | none => rw [hf] at this; exact absurd rfl this
      | some q =>
        have h1 := List.mem_reverse.1 (List.mem_of_find?_eq_some hf)
        have h2 : q.1 = v := by simpa using List.find?_some hf
        exact List.mem_map.2 ⟨q, h1, h2⟩
    obtain ⟨hn, hm⟩ := keys_perm hnd hl hk
    have hat : ∀ v ∈ vs, ∃ (i : Nat) (p : Int) (rs : List (Int × Int)), ls[i]? = some (v, p, rs) := fun v hv => by
      obtain ⟨⟨v', p, rs⟩, hq, rfl⟩ := List.mem_map.1 (hk v hv)
      obtain ⟨i, hi, e⟩ := List.getElem_of_mem hq
      exact ⟨i, p, rs, by rw [List.getElem?_eq_getElem hi, e]⟩
    refine ⟨fun v hv => ?_, fun i j hi hj => ?_⟩
    · obtain ⟨i, p, rs, h1⟩ := hat v (hp.mem_iff.1 hv)
      rw [labI_of hn h1]
      omega
    · have m1 : (sorted vs).getD i 0 ∈ vs := hp.mem_iff.1 (by rw [List.getD_eq_getElem?_getD, List.getElem?_eq_getElem hi]; exact List.getElem_mem hi)
      have m2 : (sorted vs).getD j 0 ∈ vs := hp.mem_iff.1 (by rw [List.getD_eq_getElem?_getD, List.getElem?_eq_getElem hj]; exact List.getElem_mem hj)
      obtain ⟨a, p, rs, h1⟩ := hat _ m1
      obtain ⟨b, q, ss, h2⟩ := hat _ m2
      rw [labV_of hn h1, labV_of hn h2]
      have h3 := h.2.2.2 _ (List.mem_of_getElem? h1) _ _ (pM_of hn h2)
      have h4 := hbool i j hi hj
      rw [Bool.eq_iff_iff]
      exact h3.trans h4.symm
  · rintro ⟨h1, h2⟩
    have hk : ∀ v ∈ vs, v ∈ ls.map (·.1) := fun v hv => labI_mem (h1 v (hp.mem_iff.2 hv))
    obtain ⟨hn, hm⟩ := keys_perm hnd hl hk
    have hat : ∀ v ∈ vs, ∃ (i : Nat) (p : Int) (rs : List (Int × Int)), ls[i]? = some (v, p, rs) := fun v hv => by
      obtain ⟨⟨v', p, rs⟩, hq, rfl⟩ := List.mem_map.1 (hk v hv)
      obtain ⟨i, hi, e⟩ := List.getElem_of_mem hq
      exact ⟨i, p, rs, by rw [List.getElem?_eq_getElem hi, e]⟩
    have hpos : ∀ v ∈ vs, ∃ i, i < (sorted vs).length ∧ (sorted vs).getD i 0 = v := fun v hv => by
      obtain ⟨i, hi, e⟩ := List.getElem_of_mem (hp.mem_iff.2 hv)
      exact ⟨i, hi, by rw [List.getD_eq_getElem?_getD, List.getElem?_eq_getElem hi]; exact e⟩
    refine ⟨rfl, hl, fun v hv e => ?_, fun l hl' v p hv => ?_⟩
    · obtain ⟨i, p, rs, hx⟩ := hat v hv
      rw [pM_of hn hx] at e
      cases e
    · obtain ⟨u, pu, rs⟩ := l
      have mu : u ∈ vs := (hm u).1 (List.mem_map.2 ⟨_, hl', rfl⟩)
      obtain ⟨a, ha, e⟩ := List.getElem_of_mem hl'
      have hxa : ls[a]? = some (u, pu, rs) := by rw [List.getElem?_eq_getElem ha, e]
      have mv : v ∈ vs := by
        unfold pM at hv
        cases hf : ls.reverse.find? fun q => decide (q.1 = v) with
        | none => rw [hf] at hv; cases hv
        | some q =>
          have g1 := List.mem_reverse.1 (List.mem_of_find?_eq_some hf)
          have g2 : q.1 = v := by simpa using List.find?_some hf
          exact (hm v).1 (List.mem_map.2 ⟨q, g1, g2⟩)
      obtain ⟨b, q, ss, hxb⟩ := hat v mv
      have hq : q = p := by
        rw [pM_of hn hxb] at hv
        exact Option.some.inj hv
      subst hq
      obtain ⟨i, hi, rfl⟩ := hpos u mu
      obtain ⟨j, hj, rfl⟩ := hpos v mv
      have h3 := h2 i j hi hj
      rw [labV_of hn hxa, labV_of hn hxb] at h3
      rw [h3]
      exact hbool i j hi hj
end Go.Proofs.Ytgihncjllelonaa.Ce
