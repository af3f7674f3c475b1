/- scc.Of. -/
import Derived.Test.YtgihncjllelonaaGreatHt5
import Derived.Test.YtgihncjllelonaaGreatHt9
import Derived.Test.YtgihncjllelonaaGreatHt10
import Derived.Test.YtgihncjllelonaaGreatHt6
namespace Go.Proofs.YtgihncjllelonaaGreat.Scc
open Go Go.RowKit Go.Proofs.YtgihncjllelonaaGreat.Mem Go.Proofs.YtgihncjllelonaaGreat.Tj Go.Proofs.YtgihncjllelonaaGreat.Sl Go.Proofs.YtgihncjllelonaaGreatW.PrintWords Go.Proofs.YtgihncjllelonaaGreatW.PrintLast
attribute [local go_sem ↓] Go.wp_at_zero Go.wp_at_succ
set_option linter.unusedSimpArgs false
set_option linter.unusedVariables false

structure RwsI (w : World) (base bo n : Nat) (vals : List Value) (out : List (List Int)) : Prop where
  hat : At w bo vals 22
  lv : vals.length = n
  lo : out.length = n
  own : ∀ (u : Nat) (v : Value) (r : List Int), vals[u]? = some v → out[u]? = some r → w.ownsRow base 3 1 v r.length (ints r)
  apart : ∀ (u u' : Nat) (v v' : Value), u ≠ u' → vals[u]? = some v → vals[u']? = some v' → v.ownBlock = none ∨ v.ownBlock ≠ v'.ownBlock

theorem RwsI.below {w w' : World} {base bo n : Nat} {vals : List Value} {out : List (List Int)} (h : RwsI w base bo n vals out) (hb : Below w.heap.size w w') : RwsI w' base bo n vals out :=
  ⟨h.hat.below hb h.hat.lt, h.lv, h.lo, fun u v r h1 h2 => own_move (h.own u v r h1 h2) (fun k hk => hb.block k ((h.own u v r h1 h2).lt k hk).2), h.apart⟩

theorem RwsI.push {w w1 : World} {base bo n u g cap : Nat} {x : Int} {vals : List Value} {out : List (List Int)} {v : Value} {r : List Int} (h : RwsI w base bo n vals out) (hv : vals[u]? = some v) (hr : out[u]? = some r)
    (hb : bo < base) (hg : w.grownBy w1 v.ownBlock) (ho : w1.ownsRow base 3 1 (.slice (some ⟨g, 0, none⟩) (r.length + 1) cap) (r.length + 1) (ints (r ++ [x]))) (hat : v.ownBlock = some g ∨ g = w.heap.size) :
    RwsI (w1.setCell ⟨bo, u, none⟩ (.slice (some ⟨g, 0, none⟩) (r.length + 1) cap)) base bo n (vals.set u (.slice (some ⟨g, 0, none⟩) (r.length + 1) cap)) (out.set u (r ++ [x])) := by
  have hu : u < vals.length := (List.getElem?_eq_some_iff.1 hv).1
  have huo : u < out.length := (List.getElem?_eq_some_iff.1 hr).1
  refine ⟨(h.hat.grown hg (own_under (h.own u v r hv hr) hb)).put rfl, by simpa using h.lv, by simpa using h.lo, ?_, ?_⟩
  · intro u' v' r' h1 h2
    by_cases he : u' = u
    · subst he
      rw [List.getElem?_set_self hu] at h1
      rw [List.getElem?_set_self huo] at h2
      cases h1
      cases h2
      rw [List.length_append]
      exact ho.setB hb
    · rw [List.getElem?_set_ne (Ne.symm he)] at h1 h2
      exact ((h.own u' v' r' h1 h2).kept hg (h.apart u' u v' v he h1 hv)).setB hb
  · intro u1 u2 v1 v2 hne h1 h2
    by_cases e1 : u1 = u
    · subst e1
      rw [List.getElem?_set_self hu] at h1
      cases h1
      rw [List.getElem?_set_ne hne] at h2
      right
      intro he
      have hlt : u2 < out.length := by rw [h.lo, ← h.lv]; exact (List.getElem?_eq_some_iff.1 h2).1
      have h3 := (h.own u2 v2 _ h2 (List.getElem?_eq_getElem hlt)).lt g (by rw [← he]; rfl)
      rcases hat with h4 | h4
      · rcases h.apart u2 u1 v2 v (Ne.symm hne) h2 hv with h5 | h5
        · rw [h5] at he; simp [Value.ownBlock] at he
        · apply h5; rw [← he, h4]; rfl
      · omega
    · rw [List.getElem?_set_ne (Ne.symm e1)] at h1
      by_cases e2 : u2 = u
      · subst e2
        rw [List.getElem?_set_self hu] at h2
        cases h2
        have hlt : u1 < out.length := by rw [h.lo, ← h.lv]; exact (List.getElem?_eq_some_iff.1 h1).1
        rcases hat with h4 | h4
        · rcases h.apart u1 u2 v1 v hne h1 hv with h5 | h5
          · exact .inl h5
          · right; intro he; apply h5; rw [he, h4]; rfl
        · right
          intro he
          have h3 := (h.own u1 v1 _ h1 (List.getElem?_eq_getElem hlt)).lt g he
          omega
      · rw [List.getElem?_set_ne (Ne.symm e2)] at h2
        exact h.apart u1 u2 v1 v2 hne h1 h2



theorem RwsI.start {w : World} {base bo n : Nat} (h : At w bo (List.replicate n (.slice none 0 0)) 22) : RwsI w base bo n (List.replicate n (.slice none 0 0)) (List.replicate n []) := by
  refine ⟨h, by simp, by simp, ?_, ?_⟩
  · intro u v r e1 e2
    rw [List.getElem?_replicate] at e1 e2
    split at e1
    · cases e1
      rw [if_pos (by assumption)] at e2
      cases e2
      exact World.ownsRow_nil _ _ _ _
    · cases e1
  · intro u u' v v' _ e1 _
    rw [List.getElem?_replicate] at e1
    split at e1
    · cases e1; left; rfl
    · cases e1

def OfRel (w2 : World) (n next : Nat) (comp : List Nat) (sl : List Int) (ls : List (List Int)) (k j : Nat) (W : World) : Prop :=
  ∃ vals out, j + k = n ∧ groupL (comp.drop j) (sl.drop j) out = some ls ∧ (∀ r ∈ out, r.length ≤ j) ∧ RwsI W (w2.heap.size + 1) w2.heap.size next vals out ∧ Below w2.heap.size w2 W ∧ w2.heap.size + 1 ≤ W.heap.size

def OfPost (w : World) (code : Nat) (ls : List (List Int)) (e : Ending) (w' : World) : Prop :=
  Below w.heap.size w w' ∧ (code ≠ 0 → e = .returned (.tuple #[.slice none 0 0, .int .i64 (code : Int)])) ∧
  (code = 0 → ∃ bo vals, e = .returned (.tuple #[.slice (some ⟨bo, 0, none⟩) ls.length ls.length, .int .i64 0]) ∧ w.heap.size ≤ bo ∧ RwsI w' w.heap.size bo ls.length vals ls)

def tb22_9.T9 : Bool × List (List Nat × List Nat) := (true, [([], []), ([], []), ([], []), ([], []), ([2, 3], [2, 3]), ([4], [4]), ([], []), ([6], [6]), ([7], [7]), ([8], [8]), ([], []), ([9, 10], [9, 10]), ([11], [11]), ([12], [12]), ([5, 13], [5, 13]), ([0, 1, 0, 1, 2, 3, 4, 5, 6, 7, 8, 9, 10, 11, 12, 13, 14], [0, 1]), ([15, 14, 14, 0, 1, 2, 3, 4, 5, 6, 7, 8, 9, 10, 11, 12, 13, 14], [14, 15])])
def tb22_9.B9 : List Nat := [0, 0, 0, 0, 12, 28, 0, 64, 192, 448, 0, 1984, 4032, 8128, 16380, 32767, 65535]
theorem tb22_9.tab9 : rtab .any (opsOf Tryz.f22 9) = tb22_9.T9 := by kernel_rfl
theorem tb22_9.bits9 : waitsOk tb22_9.T9.2 tb22_9.B9 = true := by kernel_rfl
set_option maxHeartbeats 8000000 in
set_option maxRecDepth 100000 in
theorem of_calls (w : World) (Av Aa : Option Addr) (cv ca k code : Nat) (l : List Int) (arcs : List (Int × Int)) (ls : List (List Int)) (hv : RdI w Av l) (ha : RdA w Aa arcs) (hn : l.length ≤ 1000000) (hm : arcs.length ≤ 1000000)
    (hR : ofS l arcs (sorted l) k = some (code, ls)) :
    Calls Tryz.prog 22 #[.slice Av l.length cv, .slice Aa arcs.length ca] w fun e w' => OfPost w code ls e w' := by
  have HM := Lib.hid (made_calls w Av Aa cv ca l arcs hv ha hn hm)
  have HR := Lib.hid hR
  clear hv ha hR
  go_enter Tryz.func22, Tryz.ntmps22
  go_wp2_with fail
  refine HM.out.mono ?_
  clear HM
  rintro e w1 ⟨hb, hM⟩
  have hR := HR.out
  unfold ofS at hR
  by_cases hc : (Lib.compact (sorted l)).length = l.length
  · rw [if_pos hc] at hM hR
    cases ho : arcsS (sorted l) arcs (List.replicate l.length []) with
    | none =>
      rw [ho] at hM hR
      dsimp only at hM
      subst hM
      obtain ⟨rfl, rfl⟩ := Prod.mk.inj (Option.some.inj hR)
      have HB := Lib.hid hb
      clear hb hR HR hc ho
      go_wp2_with fail
      go_ret2
      exact ⟨HB.out, fun _ => rfl, fun h => absurd h (by decide)⟩
    | some out =>
      rw [ho] at hM hR
      dsimp only at hM hR
      obtain ⟨gg, A, c, rfl, hg, hrd⟩ := hM
      cases hcp : compsS l.length out k with
      | none => rw [hcp] at hR; cases hR
      | some cp =>
        obtain ⟨comp, next⟩ := cp
        rw [hcp, Option.bind_some] at hR
        cases hgr : groupL comp (sorted l) (List.replicate next []) with
        | none => rw [hgr] at hR; cases hR
        | some ls2 =>
          rw [hgr] at hR
          obtain ⟨rfl, rfl⟩ := Prod.mk.inj (Option.some.inj hR)
          have hnx := groupL_length _ _ _ _ hgr
          rw [List.length_replicate] at hnx
          have HB := Lib.hid hb
          have HG := Lib.hid hg
          have HRD := Lib.hid hrd
          have HCPB := Lib.hid (comps_len hcp).2
          have HCL := Lib.hid (comps_len hcp).1
          have HCP := Lib.hid hcp
          have HGR := Lib.hid hgr
          have HNX := Lib.hid hnx
          clear hb hg hrd hcp hgr hR HR hc ho hnx
          go_wp2_with fail
          refine (comps_calls w1 gg l.length k c next A out comp HG.out hn HCP.out).mono ?_
          rintro e w2 ⟨bc, rfl, hbc, hle, hb2⟩
          have HBC := Lib.hid hbc
          have HB2 := Lib.hid hb2
          have HLE := Lib.hid hle
          clear hbc hb2 hle
          obtain ⟨bo', vals', hgA, _⟩ := HG.out.some
          have hnx2 : next ≤ 1000000 := HCPB.out
          have hg2 : At w2 gg [.slice A l.length c, .slice (some ⟨bo', 0, none⟩) l.length l.length] 138 := hgA.below HB2.out hgA.lt
          have HG2 := Lib.hid hg2
          have HRD2 := Lib.hid (HRD.out.below HB2.out)
          have HBB : Hid (Below w.heap.size w w2) := Lib.hid (HB.out.trans (HB2.out.mono HB.out.size))
          have hm1 := fun wx => run_make_row' (P := Tryz.prog) 40 22 (.slice none 0 0) 24 Tryz.underlying40 info_ints rfl .i64 .i64 next (by omega) (by omega) wx
          clear hgA hg2 HG HRD HB HB2 HCP
          have HR0 : Hid (OfRel w2 l.length next comp (sorted l) ls2 l.length 0 (w2.alloc (.cells (madeCells #[.slice none 0 0] next) 22))) := by
            have h1 : At (w2.alloc (.cells (madeCells #[.slice none 0 0] next) 22)) w2.heap.size (List.replicate next (.slice none 0 0)) 22 := At.made rfl (made_rows next)
            exact Lib.hid ⟨_, _, by omega, HGR.out, by intro r hr; rw [List.eq_of_mem_replicate hr]; simp, RwsI.start h1, (Below.refl _ _).alloc (Nat.le_refl _) _, by simp⟩
          go_wp2
          obtain ⟨bo, hbo⟩ : ∃ bo, bo = w2.heap.size := ⟨_, rfl⟩
          rw [← hbo]
          have HBO := Lib.hid hbo
          clear hbo hm1
          go_loopg [31] l.length (fun kq v31 w' => ∃ j : Nat, v31 = .int .i64 (j : Int) ∧ Hid (OfRel w2 l.length next comp (sorted l) ls2 kq j w'))
          case atStart => exact ⟨0, rfl, HR0⟩
          case round =>
            clear HR0
            obtain ⟨j, rfl, hI⟩ := hrel
            obtain ⟨vals, out2, hjk, hgr, hlen, hr, hb, hs⟩ := hI.out
            clear hI
            have hcl : comp.length = l.length := HCL.out
            by_cases hj : j < l.length
            · rw [List.drop_eq_getElem_cons (show j < comp.length by omega), List.drop_eq_getElem_cons (show j < (sorted l).length by rw [sorted_length]; exact hj), groupL] at hgr
              obtain ⟨cc, hcc⟩ : ∃ cc, comp[j] = cc := ⟨_, rfl⟩
              obtain ⟨x, hx⟩ : ∃ x, (sorted l)[j]'(by rw [sorted_length]; exact hj) = x := ⟨_, rfl⟩
              rw [hcc, hx] at hgr
              by_cases hcn : cc < out2.length
              · rw [if_pos hcn] at hgr
                rw [hr.lo] at hcn
                have hbc2 := HBC.out.below hb HBC.out.lt
                have cbc := hbc2.cell j (nats_at _ (show comp[j]? = some cc from by rw [List.getElem?_eq_getElem (by omega), hcc]))
                obtain ⟨bs, rfl, hcx⟩ := (HRD2.out.below hb) j x (by rw [List.getElem?_eq_getElem (by rw [sorted_length]; exact hj), hx])
                have hg2 := HG2.out.below hb HG2.out.lt
                have d0 := hg2.cell 0 rfl
                obtain ⟨vl, hvl⟩ : ∃ vl, vals[cc]? = some vl := ⟨_, List.getElem?_eq_getElem (by rw [hr.lv]; exact hcn)⟩
                obtain ⟨r, hrr⟩ : ∃ r, out2[cc]? = some r := ⟨_, List.getElem?_eq_getElem (by rw [hr.lo]; exact hcn)⟩
                have hrow := hr.own cc vl r hvl hrr
                obtain ⟨A2, c2, rfl⟩ := own_slice hrow
                have hgd : out2.getD cc [] = r := by rw [List.getD_eq_getElem?_getD, hrr]; rfl
                rw [hgd] at hgr
                have hrl : r.length ≤ j := hlen r (List.mem_of_getElem? hrr)
                have d2 := hr.hat.cell cc hvl
                have fd := hr.hat.free cc
                rw [← HBO.out] at d2 fd
                have j0 : (0 : Int) ≤ (j : Int) := by omega
                have j1 : (j : Int) < (l.length : Int) := by omega
                have j2 : (l.length : Int) ≤ 1000000 := by omega
                have u0 : (0 : Int) ≤ (cc : Int) := by omega
                have u1 : (cc : Int) < (next : Int) := by omega
                have hne1 : gg ≠ bo := by have := hg2.ne hr.hat (by decide); rw [← HBO.out] at this; exact this
                obtain ⟨bs2, hbs2, hcx2⟩ := HRD2.out j x (by rw [List.getElem?_eq_getElem (by rw [sorted_length]; exact hj), hx])
                obtain rfl : bs = bs2 := by cases hbs2; rfl
                have hne2 : bs ≠ bo := by have := World.block_lt_of_cell? _ _ hcx2; rw [HBO.out]; dsimp only at this; omega
                have HGRP := Lib.hid hgr
                have HLEN := Lib.hid hlen
                have HJK := Lib.hid hjk
                have HR := Lib.hid hr
                have HB := Lib.hid hb
                have HS := Lib.hid hs
                have HRW := Lib.hid hrow
                have HVL := Lib.hid hvl
                have HRR := Lib.hid hrr
                have HG3 := Lib.hid hg2
                have HCX := Lib.hid hcx
                have HBS : Hid (bs < w2.heap.size + 1) := Lib.hid (by have := World.block_lt_of_cell? _ _ hcx2; dsimp only at this; omega)
                have hcx_al : ∀ o : Obj, (wr.alloc o).drew.cell? ⟨bs, j, none⟩ = some (.int .i64 x) := fun o => (((Below.refl wr.heap.size wr).alloc (Nat.le_refl _) o).cell (p := ⟨bs, j, none⟩) (World.block_lt_of_cell? _ _ hcx)).trans hcx
                have d2_al : ∀ o : Obj, (wr.alloc o).drew.cell? ⟨bo, cc, none⟩ = some (.slice A2 r.length c2) := fun o => (((Below.refl wr.heap.size wr).alloc (Nat.le_refl _) o).cell (p := ⟨bo, cc, none⟩) (World.block_lt_of_cell? _ _ d2)).trans d2
                have hcx_al := Lib.hid hcx_al
                have d2_al := Lib.hid d2_al
                obtain ⟨i0, hi0, hz0, hz1, hz2⟩ := info_parts info_int
                obtain ⟨k1, hk1⟩ : ∃ k1, gk = k1 + 1 := ⟨gk - 1, by omega⟩
                have HK1 := Lib.hid hk1
                clear hgr hlen hjk hr hb hs hrow hvl hrr hg2 hbc2 hgd hcc hx hcl hcx2 hbs2 hk1
                go_wp2
                clear cbc
                refine start_ (n := 17) (S := fun w' => w'.cell? ⟨bo, cc, none⟩ = some (.slice A2 r.length c2) ∧ w'.cell? ⟨gg, 0, none⟩ = some (.slice (some ⟨bs, 0, none⟩) l.length c) ∧ w'.cell? ⟨bs, j, none⟩ = some (.int .i64 x)) (ds := [16]) (bA 17 0) (by kernel_rfl) rfl rfl ⟨d2, d0, hcx⟩ (fun hHeld => ?_)
                refine with_tabW tb22_9.tab9 tb22_9.bits9 (fun HT_ HW_ => ?_)
                refine pw_ 0 36 (bA 17 1) HT_.out ?_
                refine pw_ 1 37 (bA 17 3) HT_.out ?_
                refine pw_ 2 38 (bA 17 7) HT_.out ?_
                refine pw_ 3 39 (bA 17 15) HT_.out ?_
                refine pw_ 4 40 (bA 17 31) HT_.out ?_
                refine pw_ 6 42 (bA 17 95) HT_.out ?_
                refine pw_ 7 43 (bA 17 223) HT_.out ?_
                refine pw_ 8 44 (bA 17 479) HT_.out ?_
                refine pw_ 10 46 (bA 17 1503) HT_.out ?_
                refine tw_ 5 41 (bA 17 1535) HT_.out HW_.out hHeld (hv := by rintro w' ⟨s0, s1, s2⟩; go_simp; with_reducible rfl) (h := ?_)
                refine tw_ 9 45 (bA 17 2047) HT_.out HW_.out hHeld (hv := by rintro w' ⟨s0, s1, s2⟩; go_simp; with_reducible rfl) (h := ?_)
                refine pw_ 11 47 (bA 17 4095) HT_.out ?_
                refine tw_ 12 48 (bA 17 8191) HT_.out HW_.out hHeld (hv := by rintro w' ⟨s0, s1, s2⟩; go_simp; with_reducible rfl) (h := ?_)
                refine one_ (i := 13) (N := some 49) (bA 17 16383) rfl rfl (one_of HT_.out (by kernel_rfl)) (by decide) (fun K hK => ?_)
                refine value_ (w1 := ?_) (v := ?_) (by rfl) rfl ?_ ?_
                rotate_left 2
                · go_simp
                  constructor
                  · rfl
                  · rfl
                refine hK.out _ _ ⟨(d2_al.out _), (HG3.out.al.drew.cell 0 rfl), (hcx_al.out _)⟩ (fun hHeld => ?_)
                clear hK K
                refine norm_ (a' := ?_) ?_ ?_
                rotate_left
                · show Act.put _ (some 49) _ = _
                  simp only [Act.put, pA, pB, pC, pD, pE]; rfl
                refine one_ (i := 14) (N := some 50) (bA 17 32767) rfl rfl (one_of HT_.out (by kernel_rfl)) (by decide) (fun K hK => ?_)
                refine step_append_lies _ (by rfl) (.tmp 41) (.tmp 49) 22 (by rfl) (w2.heap.size + 1) 3 i0 (.int .i64 0) 1 8 Tryz.underlying22 hi0 hz0 hz1 hz2 rfl (by omega) _ r.length (ints r) (by rfl) ((HRW.out.alloc _).drew) ⟨wr.heap.size, 0, none⟩ 1 1 [.int .i64 x] (by rfl) rfl (cell_one_new _ _ _) (by simp [Value.oneCell']) (by omega) (by unfold maxLen; omega) (by omega) (by have := HS.out; simp; omega) _ rfl ?_
                intro g cap w1 hown hgrow hat hlt
                have hg1 := HG3.out.al.drew.grown hgrow (own_off HRW.out HG3.out (by decide))
                have hr1 := HR.out.hat.al.drew.grown hgrow (own_off HRW.out HR.out.hat (by decide))
                have fr1 := hr1.free cc
                have cr1 := hr1.cell cc HVL.out
                rw [← HBO.out] at fr1 cr1
                have cx1 : w1.cell? ⟨bs, j, none⟩ = some (.int .i64 x) := (hgrow.cell_far ⟨bs, j, none⟩ (World.block_lt_of_cell? _ _ (hcx_al.out _)) (own_under HRW.out (HBS.out))).trans (hcx_al.out _)
                have HRR3 := Lib.hid hr1; have HGR3 := Lib.hid hg1; have HGR := Lib.hid hgrow; have HOW := Lib.hid hown; have HAT := Lib.hid hat; clear hg1 hr1 hgrow hown hat
                refine hK.out _ _ ⟨cr1, (HGR3.out.cell 0 rfl), cx1⟩ (fun hHeld => ?_)
                clear hK K
                refine norm_ (a' := ?_) ?_ ?_
                rotate_left
                · show Act.put _ (some 50) _ = _
                  simp only [Act.put, pA, pB, pC, pD, pE]; rfl
                refine pw_ 15 51 (bA 17 65535) HT_.out ?_
                refine last_ (i := 16) (N := none) (bA 17 131071) rfl rfl (one_of HT_.out (by kernel_rfl)) (by decide) (fun K hK => ?_)
                refine skip_ (w1 := ?_) (by rfl) rfl ?_ ?_
                rotate_left; · go_simp; rfl
                refine hK.out _ _ ?_; clear hK K
                refine done_ (done_of HT_.out (by kernel_rfl)) ?_
                clear hHeld HT_ HW_; clear d0 d2 fd fr1 cr1 cx1 hcx
                refine gen_q (fun W => OfRel w2 l.length next comp (sorted l) ls2 k1 (j + 1) W) ?_ ?_
                · have hrA : RwsI ((wr.alloc (.cells #[.int .i64 x] 3)).drew) (w2.heap.size + 1) w2.heap.size next vals out2 :=
                    HR.out.below (((Below.refl _ _).alloc (Nat.le_refl _) _).drew)
                  have ho1 := HOW.out
                  rw [ints_snoc] at ho1
                  have hps := hrA.push (x := x) HVL.out HRR.out (Nat.lt_succ_self _) HGR.out ho1 HAT.out
                  have hbw : Below w2.heap.size w2 ((wr.alloc (.cells #[.int .i64 x] 3)).drew) := (HB.out.alloc HB.out.size _).drew
                  rw [HBO.out]
                  refine ⟨_, _, by have := HJK.out; have := HK1.out; omega, HGRP.out, ?_, hps, ((hbw.grown HGR.out hbw.size (fun k hk => by have := (HRW.out.lt k hk).1; omega)).setCell (Nat.le_refl _) _), ?_⟩
                  · intro r' hr'
                    rcases List.mem_or_eq_of_mem_set hr' with h | h
                    · exact Nat.le_succ_of_le (HLEN.out r' h)
                    · subst h; rw [List.length_append]; simp; omega
                  · have := HGR.out.size; have := HS.out; have := HBO.out; simp at *; omega
                clear HGRP HLEN HJK HR HB HS HRW HVL HRR HG3 HCX HRR3 HGR3 HGR HOW HAT hlt
                intro W5 hF
                have HF := Lib.hid hF
                clear hF
                go_wp2
                go_roundg k1
                case measure => have := HK1.out; omega
                case rel => exact ⟨j + 1, by go_num, HF⟩
              · rw [if_neg hcn] at hgr
                cases hgr
            · have hjn : comp.drop j = [] := List.drop_eq_nil_of_le (by omega)
              have hgr2 := hgr
              rw [hjn, show groupL [] ((sorted l).drop j) out2 = some out2 from by cases (sorted l).drop j <;> simp [groupL]] at hgr2
              have hlo := hr.lo
              have hls := Option.some.inj hgr2
              subst hls
              have j0 : (l.length : Int) ≤ (j : Int) := by omega
              have hbw : Below w.heap.size w wr := HBB.out.trans (hb.mono HBB.out.size)
              have HF : Hid (OfPost w 0 out2 (.returned (.tuple #[.slice (some ⟨bo, 0, none⟩) out2.length out2.length, .int .i64 0])) wr) := Lib.hid (by
                refine ⟨hbw, fun h => absurd rfl h, fun _ => ⟨bo, vals, rfl, by rw [HBO.out]; exact HBB.out.size, ?_⟩⟩
                rw [hlo, HBO.out]
                exact ⟨hr.hat, hr.lv, hr.lo, fun u v r h1 h2 => own_base (hr.own u v r h1 h2) (by have := HBB.out.size; omega), hr.apart⟩)
              rw [hlo] at HF
              clear hjk hgr hlen hr hb hs hjn hgr2 hlo hbw hj hcl
              go_wp2
              go_ret2
              exact HF.out
  · rw [if_neg hc] at hM hR
    subst hM
    obtain ⟨rfl, rfl⟩ := Prod.mk.inj (Option.some.inj hR)
    have HB := Lib.hid hb
    clear hb hR HR hc
    go_wp2_with fail
    go_ret2
    exact ⟨HB.out, fun _ => rfl, fun h => absurd h (by decide)⟩

end Go.Proofs.YtgihncjllelonaaGreat.Scc

/- Tarjan's search is right: what holds at each step. -/
namespace Go.Proofs.YtgihncjllelonaaGreat.Tj
set_option linter.unusedSimpArgs false
set_option linter.unusedVariables false

theorem getD_set {α : Type} (l : List α) (i j : Nat) (x d : α) (hi : i < l.length) : (l.set i x).getD j d = if j = i then x else l.getD j d := by
  rw [List.getD_eq_getElem?_getD, List.getElem?_set]
  by_cases h : i = j
  · subst h
    rw [if_pos rfl, if_pos hi, if_pos rfl]
    rfl
  · rw [if_neg h, if_neg (fun e => h e.symm), List.getD_eq_getElem?_getD]

inductive Rch (E : Nat → Nat → Prop) : Nat → Nat → Prop
  | refl (a : Nat) : Rch E a a
  | step {a b c : Nat} : Rch E a b → E b c → Rch E a c
theorem Rch.trans {E : Nat → Nat → Prop} {a b c : Nat} (h : Rch E a b) (h' : Rch E b c) : Rch E a c := by
  induction h' with
  | refl => exact h
  | step _ he ih => exact .step ih he
theorem Rch.one {E : Nat → Nat → Prop} {a b : Nat} (h : E a b) : Rch E a b := .step (.refl a) h
theorem Rch.mono {E E' : Nat → Nat → Prop} (hE : ∀ a b, E a b → E' a b) {a b : Nat} (h : Rch E a b) : Rch E' a b := by
  induction h with
  | refl => exact .refl _
  | step _ he ih => exact .step ih (hE _ _ he)
theorem Rch.closed {E : Nat → Nat → Prop} {C : Nat → Prop} (hC : ∀ x y, C x → E x y → C y) {a b : Nat} (h : Rch E a b) (ha : C a) : C b := by
  induction h with
  | refl => exact ha
  | step _ he ih => exact hC _ _ ih he

def Eg (out : List (List Nat)) (u v : Nat) : Prop := v ∈ out.getD u []

structure Inv (n : Nat) (out : List (List Nat)) (S : St) (way : List (Nat × Nat)) : Prop where
  len : Len n S
  tm : S.idx.count 0 + S.time = n
  cl : S.cnt + S.opn.length ≤ S.time
  wl : way.length ≤ S.time
  ile : ∀ v, S.idx.getD v 0 ≤ S.time
  inj : ∀ u v, S.idx.getD u 0 = S.idx.getD v 0 → S.idx.getD u 0 ≠ 0 → u = v
  opw : S.opn.Pairwise (fun a b => S.idx.getD b 0 < S.idx.getD a 0)
  opm : ∀ v ∈ S.opn, v < n ∧ S.idx.getD v 0 ≠ 0
  inn : ∀ v, S.inn.getD v false = true ↔ v ∈ S.opn
  wpw : way.Pairwise (fun a b => S.idx.getD b.1 0 < S.idx.getD a.1 0)
  wop : ∀ p ∈ way, p.1 ∈ S.opn ∧ p.2 ≤ (out.getD p.1 []).length
  lo : ∀ v ∈ S.opn, S.low.getD v 0 ≤ S.idx.getD v 0 ∧ ∃ u ∈ S.opn, S.idx.getD u 0 = S.low.getD v 0 ∧ Rch (Eg out) v u
  fin : ∀ v ∈ S.opn, (∀ m, (v, m) ∉ way) → S.low.getD v 0 < S.idx.getD v 0
  reach : ∀ p ∈ way, ∀ w ∈ S.opn, S.idx.getD p.1 0 ≤ S.idx.getD w 0 → Rch (Eg out) p.1 w
  ex : ∀ x, S.idx.getD x 0 ≠ 0 → ∀ j w, (out.getD x [])[j]? = some w → (∀ m, (x, m) ∈ way → j < m) → S.idx.getD w 0 ≠ 0
  L : ∀ x ∈ S.opn, ∀ j w, (out.getD x [])[j]? = some w → (∀ m, (x, m) ∈ way → j < m) → w ∈ S.opn → ∀ p ∈ way, S.idx.getD p.1 0 ≤ S.idx.getD x 0 → (∀ q ∈ way, S.idx.getD q.1 0 ≤ S.idx.getD x 0 → S.idx.getD q.1 0 ≤ S.idx.getD p.1 0) → S.low.getD p.1 0 ≤ S.idx.getD w 0
  clo : ∀ x, S.idx.getD x 0 ≠ 0 → x ∉ S.opn → ∀ w, Eg out x w → S.idx.getD w 0 ≠ 0 ∧ w ∉ S.opn
  cmp : ∀ x y, S.idx.getD x 0 ≠ 0 → x ∉ S.opn → S.idx.getD y 0 ≠ 0 → y ∉ S.opn → (S.comp.getD x 0 = S.comp.getD y 0 ↔ Rch (Eg out) x y ∧ Rch (Eg out) y x)
  cml : ∀ x, S.idx.getD x 0 ≠ 0 → x ∉ S.opn → S.comp.getD x 0 < S.cnt

section
variable {n : Nat} {out : List (List Nat)} {S : St} {way : List (Nat × Nat)}

theorem Inv.back (h : Inv n out S way) : ∀ (t x : Nat), x ∈ S.opn → S.idx.getD x 0 = t → ∃ p ∈ way, S.idx.getD p.1 0 ≤ S.idx.getD x 0 ∧ Rch (Eg out) x p.1 := by
  intro t
  induction t using Nat.strongRecOn with
  | _ t ih =>
    intro x hx ht
    by_cases hw : ∀ m, (x, m) ∉ way
    · obtain ⟨_, y, hy, hyi, hyr⟩ := h.lo x hx
      have hf := h.fin x hx hw
      obtain ⟨p, hp, hpi, hpr⟩ := ih (S.idx.getD y 0) (by omega) y hy rfl
      exact ⟨p, hp, by omega, hyr.trans hpr⟩
    · obtain ⟨m, hm⟩ := Classical.not_forall.1 hw
      exact ⟨(x, m), Classical.not_not.1 hm, Nat.le_refl _, .refl _⟩

theorem Inv.st0 (n : Nat) (out : List (List Nat)) : Inv n out (st0 n) [] := by
  have hi : ∀ v, (Tj.st0 n).idx.getD v 0 = 0 := fun v => by
    simp only [Tj.st0, List.getD_eq_getElem?_getD, List.getElem?_replicate]
    split <;> rfl
  have hn : ∀ v, (Tj.st0 n).inn.getD v false = false := fun v => by
    simp only [Tj.st0, List.getD_eq_getElem?_getD, List.getElem?_replicate]
    split <;> rfl
  refine ⟨Len.st0 n, by simp [Tj.st0], by simp [Tj.st0], by simp, fun v => by rw [hi]; omega, fun u v _ h => absurd (hi u) h, by simp [Tj.st0], by simp [Tj.st0], fun v => by rw [hn]; simp [Tj.st0], by simp, by simp, by simp [Tj.st0], by simp [Tj.st0], by simp, fun x h => absurd (hi x) h, by simp, fun x h => absurd (hi x) h, fun x y h => absurd (hi x) h, fun x h => absurd (hi x) h⟩

theorem Inv.enter (h : Inv n out S way) {w : Nat} (hw : w < n) (h0 : S.idx.getD w 0 = 0) {way' : List (Nat × Nat)}
    (hv : (way = [] ∧ way' = []) ∨ ∃ v m r, way = (v, m) :: r ∧ way' = (v, m + 1) :: r ∧ (out.getD v [])[m]? = some w) : Inv n out (enterS S w) ((w, 0) :: way') := by
  have hwl : w < S.idx.length := by rw [h.len.i]; exact hw
  have hi : ∀ x, (enterS S w).idx.getD x 0 = if x = w then S.time + 1 else S.idx.getD x 0 := fun x => getD_set S.idx w x _ _ hwl
  have hl : ∀ x, (enterS S w).low.getD x 0 = if x = w then S.time + 1 else S.low.getD x 0 := fun x => getD_set S.low w x _ _ (by rw [h.len.l]; exact hw)
  have hnw : w ∉ S.opn := fun hm => (h.opm w hm).2 h0
  have hne : ∀ x ∈ S.opn, x ≠ w := fun x hx he => hnw (he ▸ hx)
  have hwayne : ∀ p ∈ way, p.1 ≠ w := fun p hp => hne _ (h.wop p hp).1
  -- the way behind the step has the same vertices
  have hsame : ∀ p ∈ way', ∃ q ∈ way, q.1 = p.1 := by
    rcases hv with ⟨_, rfl⟩ | ⟨v, m, r, rfl, rfl, _⟩
    · simp
    · intro p hp
      rcases List.mem_cons.1 hp with rfl | hp
      · exact ⟨_, List.mem_cons_self, rfl⟩
      · exact ⟨p, List.mem_cons.2 (.inr hp), rfl⟩
  have hsame' : ∀ q ∈ way, ∃ p ∈ way', p.1 = q.1 := by
    rcases hv with ⟨rfl, _⟩ | ⟨v, m, r, rfl, rfl, _⟩
    · simp
    · intro p hp
      rcases List.mem_cons.1 hp with rfl | hp
      · exact ⟨_, List.mem_cons_self, rfl⟩
      · exact ⟨p, List.mem_cons.2 (.inr hp), rfl⟩
  have hwayne' : ∀ p ∈ way', p.1 ≠ w := fun p hp => by
    obtain ⟨q, hq, he⟩ := hsame p hp
    rw [← he]; exact hwayne q hq
  -- an edge that is explored behind the step was so ahead of it, or it is the one to w
  have hexp : ∀ x j y, x ≠ w → (out.getD x [])[j]? = some y → (∀ m, (x, m) ∈ (w, 0) :: way' → j < m) → y = w ∨ ∀ m, (x, m) ∈ way → j < m := by
    intro x j y hxw hy hj
    rcases hv with ⟨rfl, rfl⟩ | ⟨v, m, r, rfl, rfl, hed⟩
    · right; simp
    · by_cases hxv : x = v
      · subst hxv
        have := hj (m + 1) (by simp)
        by_cases hjm : j = m
        · left
          subst hjm
          rw [hed] at hy
          exact (Option.some.inj hy).symm
        · right
          intro m' hm'
          rcases List.mem_cons.1 hm' with he | hm'
          · cases he; omega
          · exact hj m' (by simp [hm'])
      · right
        intro m' hm'
        rcases List.mem_cons.1 hm' with he | hm'
        · cases he; exact absurd rfl hxv
        · exact hj m' (by simp [hm'])
  refine ⟨h.len.enter w, ?_, ?_, ?_, ?_, ?_, ?_, ?_, ?_, ?_, ?_, ?_, ?_, ?_, ?_, ?_, ?_, ?_, ?_⟩
  · -- tm
    have h1 : S.idx[w]'hwl = 0 := by rw [List.getD_eq_getElem?_getD, List.getElem?_eq_getElem hwl] at h0; exact h0
    have h2 : 0 < S.idx.count 0 := List.count_pos_iff.2 (h1 ▸ List.getElem_mem hwl)
    have h3 : (S.idx.set w (S.time + 1)).count 0 = S.idx.count 0 - 1 := by
      rw [List.count_set hwl, h1]
      simp
    have h4 := h.tm
    show (S.idx.set w (S.time + 1)).count 0 + (S.time + 1) = n
    omega
  · have := h.cl
    show S.cnt + (w :: S.opn).length ≤ S.time + 1
    simp only [List.length_cons]
    omega
  · have := h.wl
    show ((w, 0) :: way').length ≤ S.time + 1
    rcases hv with ⟨rfl, rfl⟩ | ⟨v, m, r, rfl, rfl, _⟩
    · simp
    · simp only [List.length_cons] at *; omega
  · intro v
    rw [hi]
    show _ ≤ S.time + 1
    have := h.ile v
    split <;> omega
  · intro u v he hu
    rw [hi, hi] at he
    rw [hi] at hu
    have h1 := h.ile u
    have h2 := h.ile v
    by_cases e1 : u = w
    · by_cases e2 : v = w
      · rw [e1, e2]
      · rw [if_pos e1, if_neg e2] at he; omega
    · by_cases e2 : v = w
      · rw [if_neg e1, if_pos e2] at he; omega
      · rw [if_neg e1, if_neg e2] at he
        rw [if_neg e1] at hu
        exact h.inj u v he hu
  · show (w :: S.opn).Pairwise _
    rw [List.pairwise_cons]
    refine ⟨fun x hx => ?_, h.opw.imp_of_mem (fun {a b} ha hb hab => ?_)⟩
    · rw [hi, hi, if_neg (hne x hx), if_pos rfl]
      have := h.ile x
      omega
    · rw [hi, hi, if_neg (hne _ ha), if_neg (hne _ hb)]
      exact hab
  · intro v hv'
    rcases List.mem_cons.1 (show v ∈ w :: S.opn from hv') with rfl | hv'
    · exact ⟨hw, by rw [hi, if_pos rfl]; omega⟩
    · exact ⟨(h.opm v hv').1, by rw [hi, if_neg (hne v hv')]; exact (h.opm v hv').2⟩
  · intro v
    show (S.inn.set w true).getD v false = true ↔ v ∈ w :: S.opn
    rw [getD_set S.inn w v _ _ (by rw [h.len.b]; exact hw), List.mem_cons]
    split
    · rename_i he; simp [he]
    · rename_i he
      rw [h.inn v]
      simp [he]
  · rw [List.pairwise_cons]
    refine ⟨fun p hp => ?_, ?_⟩
    · rw [hi, hi, if_neg (hwayne' p hp), if_pos rfl]
      have := h.ile p.1
      omega
    · have : way'.Pairwise (fun a b => S.idx.getD b.1 0 < S.idx.getD a.1 0) := by
        have hwp := h.wpw
        rcases hv with ⟨rfl, rfl⟩ | ⟨v, m, r, rfl, rfl, _⟩
        · exact List.Pairwise.nil
        · rw [List.pairwise_cons] at hwp ⊢
          exact hwp
      refine this.imp_of_mem (fun {a b} ha hb hab => ?_)
      rw [hi, hi, if_neg (hwayne' _ ha), if_neg (hwayne' _ hb)]
      exact hab
  · intro p hp
    rcases List.mem_cons.1 hp with rfl | hp
    · exact ⟨List.mem_cons_self, Nat.zero_le _⟩
    · rcases hv with ⟨rfl, rfl⟩ | ⟨v, m, r, rfl, rfl, hed⟩
      · simp at hp
      · rcases List.mem_cons.1 hp with rfl | hp
        · exact ⟨List.mem_cons.2 (.inr (h.wop _ List.mem_cons_self).1), (List.getElem?_eq_some_iff.1 hed).1⟩
        · exact ⟨List.mem_cons.2 (.inr (h.wop p (List.mem_cons.2 (.inr hp))).1), (h.wop p (List.mem_cons.2 (.inr hp))).2⟩
  · intro v hv'
    rcases List.mem_cons.1 (show v ∈ w :: S.opn from hv') with rfl | hv'
    · rw [hi, hl, if_pos rfl, if_pos rfl]
      exact ⟨Nat.le_refl _, v, List.mem_cons_self, by rw [hi, if_pos rfl], .refl _⟩
    · rw [hi, hl, if_neg (hne v hv'), if_neg (hne v hv')]
      obtain ⟨h1, u, hu, hui, hur⟩ := h.lo v hv'
      exact ⟨h1, u, List.mem_cons.2 (.inr hu), by rw [hi, if_neg (hne u hu)]; exact hui, hur⟩
  · intro v hv' hnm
    rcases List.mem_cons.1 (show v ∈ w :: S.opn from hv') with rfl | hv'
    · exact absurd List.mem_cons_self (hnm 0)
    · rw [hi, hl, if_neg (hne v hv'), if_neg (hne v hv')]
      refine h.fin v hv' (fun m hm => ?_)
      obtain ⟨p, hp, he⟩ := hsame' _ hm
      obtain ⟨p1, p2⟩ := p
      cases he
      exact hnm p2 (List.mem_cons.2 (.inr hp))
  · intro p hp x hx hle
    rcases List.mem_cons.1 hp with rfl | hp
    · rcases List.mem_cons.1 (show x ∈ w :: S.opn from hx) with rfl | hx
      · exact .refl _
      · rw [hi, hi, if_pos rfl, if_neg (hne x hx)] at hle
        have := h.ile x
        omega
    · obtain ⟨q, hq, he⟩ := hsame p hp
      rw [← he] at hle ⊢
      rcases List.mem_cons.1 (show x ∈ w :: S.opn from hx) with rfl | hx
      · rcases hv with ⟨rfl, _⟩ | ⟨v, m, r, rfl, rfl, hed⟩
        · simp at hq
        · refine .step (h.reach q hq v (h.wop _ List.mem_cons_self).1 ?_) (List.mem_of_getElem? hed)
          rcases List.mem_cons.1 hq with rfl | hq'
          · exact Nat.le_refl _
          · exact Nat.le_of_lt ((List.pairwise_cons.1 h.wpw).1 q hq')
      · rw [hi, hi, if_neg (hwayne q hq), if_neg (hne x hx)] at hle
        exact h.reach q hq x hx hle
  · intro x hx j y hy hj
    by_cases hxw : x = w
    · subst hxw
      exact absurd (hj 0 List.mem_cons_self) (Nat.not_lt_zero _)
    · rw [hi, if_neg hxw] at hx
      rw [hi]
      split
      · omega
      · rename_i hyw
        rcases hexp x j y hxw hy hj with he | he
        · exact absurd he hyw
        · exact h.ex x hx j y hy he
  · intro x hx j y hy hj hyo p hp hpx hown
    by_cases hxw : x = w
    · subst hxw
      exact absurd (hj 0 List.mem_cons_self) (Nat.not_lt_zero _)
    · have hxo : x ∈ S.opn := by
        rcases List.mem_cons.1 (show x ∈ w :: S.opn from hx) with he | hx
        · exact absurd he hxw
        · exact hx
      have hpw : p ∈ way' := by
        rcases List.mem_cons.1 hp with rfl | hp
        · rw [hi, hi, if_pos rfl, if_neg hxw] at hpx
          have := h.ile x
          omega
        · exact hp
      obtain ⟨q, hq, he⟩ := hsame p hpw
      have hp1 := hwayne' p hpw
      rw [hi, hi, if_neg hp1, if_neg hxw] at hpx
      rw [hl, if_neg hp1, hi]
      split
      · have h1 := (h.lo q.1 (h.wop q hq).1).1
        have h2 := h.ile q.1
        rw [he] at h1 h2
        omega
      · rename_i hyw
        have hyo' : y ∈ S.opn := by
          rcases List.mem_cons.1 (show y ∈ w :: S.opn from hyo) with he | hy
          · exact absurd he hyw
          · exact hy
        rcases hexp x j y hxw hy hj with he' | he'
        · exact absurd he' hyw
        · rw [← he]
          refine h.L x hxo j y hy he' hyo' q hq (by rw [he]; exact hpx) (fun q' hq' hle => ?_)
          obtain ⟨p', hp', hpe⟩ := hsame' q' hq'
          have := hown p' (List.mem_cons.2 (.inr hp')) (by rw [hi, hi, if_neg (hwayne' p' hp'), if_neg hxw, hpe]; exact hle)
          rw [hi, hi, if_neg (hwayne' p' hp'), if_neg hp1, hpe] at this
          rw [he]
          exact this
  · intro x hx hxo y hy
    by_cases hxw : x = w
    · exact absurd (List.mem_cons.2 (.inl hxw)) hxo
    · rw [hi, if_neg hxw] at hx
      have hxo' : x ∉ S.opn := fun hm => hxo (List.mem_cons.2 (.inr hm))
      obtain ⟨h1, h2⟩ := h.clo x hx hxo' y hy
      have hyw : y ≠ w := fun he => h1 (he ▸ h0)
      refine ⟨by rw [hi, if_neg hyw]; exact h1, fun hm => ?_⟩
      rcases List.mem_cons.1 (show y ∈ w :: S.opn from hm) with he | hm
      · exact hyw he
      · exact h2 hm
  · intro x y hx hxo hy hyo
    have hxw : x ≠ w := fun he => hxo (List.mem_cons.2 (.inl he))
    have hyw : y ≠ w := fun he => hyo (List.mem_cons.2 (.inl he))
    rw [hi, if_neg hxw] at hx
    rw [hi, if_neg hyw] at hy
    exact h.cmp x y hx (fun hm => hxo (List.mem_cons.2 (.inr hm))) hy (fun hm => hyo (List.mem_cons.2 (.inr hm)))
  · intro x hx hxo
    have hxw : x ≠ w := fun he => hxo (List.mem_cons.2 (.inl he))
    rw [hi, if_neg hxw] at hx
    exact h.cml x hx (fun hm => hxo (List.mem_cons.2 (.inr hm)))

theorem Inv.look {v m : Nat} {r : List (Nat × Nat)} (h : Inv n out S ((v, m) :: r)) {w : Nat} (hed : (out.getD v [])[m]? = some w) (h0 : S.idx.getD w 0 ≠ 0) {x : Nat}
    (hx : (w ∈ S.opn ∧ x = min (S.low.getD v 0) (S.idx.getD w 0)) ∨ (w ∉ S.opn ∧ x = S.low.getD v 0)) : Inv n out { S with low := S.low.set v x } ((v, m + 1) :: r) := by
  have hvo : v ∈ S.opn := (h.wop _ List.mem_cons_self).1
  have hvn : v < n := (h.opm v hvo).1
  have hl : ∀ y, (S.low.set v x).getD y 0 = if y = v then x else S.low.getD y 0 := fun y => getD_set S.low v y _ _ (by rw [h.len.l]; exact hvn)
  have hxle : x ≤ S.low.getD v 0 := by rcases hx with ⟨_, rfl⟩ | ⟨_, rfl⟩ <;> omega
  have hxw : w ∈ S.opn → x ≤ S.idx.getD w 0 := by
    intro hw
    rcases hx with ⟨_, rfl⟩ | ⟨h1, _⟩
    · omega
    · exact absurd hw h1
  have hsame : ∀ p ∈ (v, m + 1) :: r, ∃ q ∈ (v, m) :: r, q.1 = p.1 := by
    intro p hp
    rcases List.mem_cons.1 hp with rfl | hp
    · exact ⟨_, List.mem_cons_self, rfl⟩
    · exact ⟨p, List.mem_cons.2 (.inr hp), rfl⟩
  have hsame' : ∀ p ∈ (v, m) :: r, ∃ q ∈ (v, m + 1) :: r, q.1 = p.1 := by
    intro p hp
    rcases List.mem_cons.1 hp with rfl | hp
    · exact ⟨_, List.mem_cons_self, rfl⟩
    · exact ⟨p, List.mem_cons.2 (.inr hp), rfl⟩
  have hexp : ∀ y j u, (out.getD y [])[j]? = some u → (∀ m', (y, m') ∈ (v, m + 1) :: r → j < m') → (y = v ∧ u = w) ∨ ∀ m', (y, m') ∈ (v, m) :: r → j < m' := by
    intro y j u hu hj
    by_cases hyv : y = v
    · subst hyv
      have := hj (m + 1) List.mem_cons_self
      by_cases hjm : j = m
      · left
        subst hjm
        rw [hed] at hu
        exact ⟨rfl, (Option.some.inj hu).symm⟩
      · right
        intro m' hm'
        rcases List.mem_cons.1 hm' with he | hm'
        · cases he; omega
        · exact hj m' (List.mem_cons.2 (.inr hm'))
    · right
      intro m' hm'
      rcases List.mem_cons.1 hm' with he | hm'
      · cases he; exact absurd rfl hyv
      · exact hj m' (List.mem_cons.2 (.inr hm'))
  refine ⟨h.len.low v x, h.tm, h.cl, h.wl, h.ile, h.inj, h.opw, h.opm, h.inn, ?_, ?_, ?_, ?_, ?_, ?_, ?_, h.clo, h.cmp, h.cml⟩
  · have := h.wpw
    rw [List.pairwise_cons] at this ⊢
    exact this
  · intro p hp
    rcases List.mem_cons.1 hp with rfl | hp
    · exact ⟨hvo, (List.getElem?_eq_some_iff.1 hed).1⟩
    · exact h.wop p (List.mem_cons.2 (.inr hp))
  · intro y hy
    show (S.low.set v x).getD y 0 ≤ _ ∧ ∃ u ∈ S.opn, S.idx.getD u 0 = (S.low.set v x).getD y 0 ∧ _
    rw [hl]
    split
    · rename_i hyv
      subst hyv
      obtain ⟨h1, u, hu, hui, hur⟩ := h.lo y hy
      refine ⟨Nat.le_trans hxle h1, ?_⟩
      rcases hx with ⟨hwo, rfl⟩ | ⟨_, rfl⟩
      · rcases Nat.le_total (S.low.getD y 0) (S.idx.getD w 0) with hle | hle
        · exact ⟨u, hu, by rw [hui]; omega, hur⟩
        · exact ⟨w, hwo, by omega, .one (List.mem_of_getElem? hed)⟩
      · exact ⟨u, hu, hui, hur⟩
    · exact h.lo y hy
  · intro y hy hnm
    show (S.low.set v x).getD y 0 < _
    rw [hl]
    split
    · rename_i hyv
      exact absurd (hyv ▸ List.mem_cons_self) (hnm (m + 1))
    · refine h.fin y hy (fun m' hm' => ?_)
      obtain ⟨q, hq, he⟩ := hsame' _ hm'
      obtain ⟨q1, q2⟩ := q
      cases he
      exact hnm q2 hq
  · intro p hp y hy hle
    obtain ⟨q, hq, he⟩ := hsame p hp
    rw [← he] at hle ⊢
    exact h.reach q hq y hy hle
  · intro y hy j u hu hj
    rcases hexp y j u hu hj with ⟨_, rfl⟩ | he
    · exact h0
    · exact h.ex y hy j u hu he
  · intro y hy j u hu hj huo p hp hpy hown
    show (S.low.set v x).getD p.1 0 ≤ S.idx.getD u 0
    obtain ⟨q, hq, he⟩ := hsame p hp
    have hlow : (S.low.set v x).getD p.1 0 ≤ S.low.getD p.1 0 := by
      rw [hl]
      split
      · rename_i e; rw [e]; exact hxle
      · exact Nat.le_refl _
    rcases hexp y j u hu hj with ⟨rfl, rfl⟩ | he'
    · have h1 := hown (y, m + 1) List.mem_cons_self (Nat.le_refl _)
      have h2 : p.1 = y := h.inj _ _ (by show S.idx.getD p.1 0 = S.idx.getD y 0; have h3 : S.idx.getD p.1 0 ≤ S.idx.getD y 0 := hpy; have h4 : S.idx.getD y 0 ≤ S.idx.getD p.1 0 := h1; omega) (by have := (h.opm q.1 (h.wop q hq).1).2; rw [he] at this; exact this)
      rw [hl, if_pos h2]
      exact hxw huo
    · refine Nat.le_trans hlow ?_
      rw [← he]
      refine h.L y hy j u hu he' huo q hq (by rw [he]; exact hpy) (fun q' hq' hle => ?_)
      obtain ⟨p', hp', hpe⟩ := hsame' q' hq'
      have := hown p' hp' (by rw [hpe]; exact hle)
      rw [hpe] at this
      rw [he]
      exact this

end

end Go.Proofs.YtgihncjllelonaaGreat.Tj

/- Tarjan's search is right: leaving a vertex. -/
namespace Go.Proofs.YtgihncjllelonaaGreat.Tj

section
end

end Go.Proofs.YtgihncjllelonaaGreat.Tj

/- Tarjan's search ends, and tells the components. -/
namespace Go.Proofs.YtgihncjllelonaaGreat.Tj

def fo : List Nat → Nat → Option Nat
  | [], m => some m
  | c :: r, m => if c < m then fo r m else if c = m then fo r (m + 1) else none

end Go.Proofs.YtgihncjllelonaaGreat.Tj

/- scc.Order's plain model: what the first part makes (heads, arcs into, arcs out). -/
namespace Go.Proofs.YtgihncjllelonaaGreat.Tj
set_option linter.unusedSimpArgs false
set_option linter.unusedVariables false

end Go.Proofs.YtgihncjllelonaaGreat.Tj

/- scc.Order's plain model: the components are told as a greedy order. -/
namespace Go.Proofs.YtgihncjllelonaaGreat.Tj

def Greedy (outs : List (List Nat)) (m : Nat) (T : List Nat) : Prop :=
  ∀ P c Q, T = P ++ c :: Q → c < m ∧ c ∉ P ∧ (∀ d, d < m → d ∉ P → c ∉ outs.getD d []) ∧ ∀ c', c' < c → c' ∉ P → ∃ d, d < m ∧ d ∉ P ∧ c' ∈ outs.getD d []

theorem Greedy.snoc {outs : List (List Nat)} {m c : Nat} {T : List Nat} (h : Greedy outs m T) (h1 : c < m) (h2 : c ∉ T) (h3 : ∀ d, d < m → d ∉ T → c ∉ outs.getD d []) (h4 : ∀ c', c' < c → c' ∉ T → ∃ d, d < m ∧ d ∉ T ∧ c' ∈ outs.getD d []) : Greedy outs m (T ++ [c]) := by
  intro P c0 Q he
  rcases List.eq_nil_or_concat Q with rfl | ⟨Q', q, rfl⟩
  · have := List.append_inj' he rfl
    obtain ⟨rfl, hc⟩ := this
    cases hc
    exact ⟨h1, h2, h3, h4⟩
  · rw [show P ++ c0 :: (Q'.concat q) = (P ++ c0 :: Q') ++ [q] by simp] at he
    have := List.append_inj' he rfl
    exact h P c0 Q' this.1

end Go.Proofs.YtgihncjllelonaaGreat.Tj
