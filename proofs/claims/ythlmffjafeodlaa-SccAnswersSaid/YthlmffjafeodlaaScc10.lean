/- scc.Acyclic: the model and the walk. -/
import Derived.Test.YthlmffjafeodlaaScc9
namespace Go.Proofs.Ythlmffjafeodlaa.Scc
open Go Go.RowKit Go.Proofs.Ythlmffjafeodlaa.Mem Go.Proofs.Ythlmffjafeodlaa.Tj Go.Proofs.Ythlmffjafeodlaa.Sl Go.Proofs.YthlmffjafeodlaaW.PrintWords Go.Proofs.YthlmffjafeodlaaW.PrintLast
attribute [local go_sem ↓] Go.wp_at_zero Go.wp_at_succ
set_option linter.unusedSimpArgs false
set_option linter.unusedVariables false

theorem Gr.widen {w : World} {G G' gg n : Nat} {vsv : Value} {out : List (List Nat)} (h : Gr w G gg n vsv out) (hG : G ≤ G') : Gr w G' gg n vsv out := by
  obtain ⟨bo, vals, h1, h2, h3, h4, h5, h6⟩ := h.some
  refine ⟨h.lenOut, bo, vals, h1, h2, by omega, by omega, h5, fun u r hu => ?_⟩
  obtain ⟨A, c, g1, g2, g3⟩ := h6 u r hu
  exact ⟨A, c, g1, g2, fun j x hx => by
    obtain ⟨b, e1, e2, e3⟩ := g3 j x hx
    exact ⟨b, e1, by omega, e3⟩⟩

def AcyPost (w : World) (R : Nat × Bool) (e : Ending) (w' : World) : Prop :=
  Below w.heap.size w w' ∧ e = .returned (.tuple #[.bool R.2, .int .i64 (R.1 : Int)])

set_option maxHeartbeats 8000000 in
set_option maxRecDepth 100000 in
theorem acy_calls (w : World) (Av Aa : Option Addr) (cv ca k : Nat) (l : List Int) (arcs : List (Int × Int)) (R : Nat × Bool) (hv : RdI w Av l) (ha : RdA w Aa arcs) (hn : l.length ≤ 1000000) (hm : arcs.length ≤ 1000000)
    (hR : acyS l arcs (sorted l) k = some R) :
    Calls Try.prog 15 #[.slice Av l.length cv, .slice Aa arcs.length ca] w fun e w' => AcyPost w R e w' := by
  have HM := Lib.hid (made_calls w Av Aa cv ca l arcs hv ha hn hm)
  have HR := Lib.hid hR
  have HA := Lib.hid ha
  clear hv ha hR
  go_enter Try.func15, Try.ntmps15
  go_wp2_with fail
  refine HM.out.mono ?_
  clear HM
  rintro e w1 ⟨hb, hM⟩
  have hR := HR.out
  unfold acyS at hR
  by_cases hc : (Lib.compact (sorted l)).length = l.length
  · rw [if_pos hc] at hM hR
    cases ho : arcsS (sorted l) arcs (List.replicate l.length []) with
    | none =>
      rw [ho] at hM hR
      dsimp only at hM
      subst hM
      obtain rfl := Option.some.inj hR
      have HB := Lib.hid hb
      clear hb hR HR hc ho
      go_wp2_with fail
      go_ret2
      exact ⟨HB.out, rfl⟩
    | some out =>
      rw [ho] at hM hR
      dsimp only at hM hR
      obtain ⟨gg, A, c, rfl, hg, hrd⟩ := hM
      cases hcp : compsS l.length out k with
      | none => rw [hcp] at hR; cases hR
      | some cp =>
        obtain ⟨comp, next⟩ := cp
        rw [hcp, Option.map_some] at hR
        obtain rfl := Option.some.inj hR
        have HB := Lib.hid hb
        have HG := Lib.hid hg
        have HCP := Lib.hid hcp
        clear hb hg hrd hcp hR HR hc ho
        go_wp2_with fail
        go_loopg [23] arcs.length (fun kq v23 w' => ∃ j : Nat, v23 = .int .i64 (j : Int) ∧ Hid (j + kq = arcs.length ∧ (arcs.take j).all (fun p => decide (p.1 ≠ p.2)) = true ∧ Below w1.heap.size w1 w'))
        case atStart => exact ⟨0, rfl, Lib.hid ⟨by omega, by simp, Below.refl _ _⟩⟩
        case round =>
          obtain ⟨j, rfl, hI⟩ := hrel
          obtain ⟨hjk, hall, hbw⟩ := hI.out
          clear hI
          by_cases hj : j < arcs.length
          · obtain ⟨u, v, huv⟩ : ∃ u v, arcs[j] = (u, v) := ⟨_, _, rfl⟩
            have hbw2 := HB.out.trans (hbw.mono HB.out.size)
            obtain ⟨ba, rfl, hcu, hcv⟩ := (HA.out.below hbw2) j u v (by rw [List.getElem?_eq_getElem hj, huv])
            have j0 : (0 : Int) ≤ (j : Int) := by omega
            have j1 : (j : Int) < (arcs.length : Int) := by omega
            have j2 : (arcs.length : Int) ≤ 1000000 := by omega
            have hsn : arcs.take (j + 1) = arcs.take j ++ [(u, v)] := by rw [List.take_add_one, List.getElem?_eq_getElem hj, huv]; rfl
            by_cases he : u = v
            · have hno : arcs.all (fun p => decide (p.1 ≠ p.2)) = false := by
                rw [List.all_eq_false]
                exact ⟨(u, v), huv ▸ List.getElem_mem hj, by simp [he]⟩
              have HNO := Lib.hid hno
              have HBW := Lib.hid hbw2
              subst he
              clear hno hbw2 hbw hall hsn huv hjk
              go_wp2_with fail
              go_ret2
              refine ⟨HBW.out.alloc HBW.out.size _, ?_⟩
              have hfin : acyB arcs next l.length = false := by rw [acyB, HNO.out]; rfl
              rw [hfin]
              rfl
            · have e1 : ((u : Int) == v) = false := beq_eq_false_iff_ne.2 he
              have HALL := Lib.hid hall
              have HBW := Lib.hid hbw
              have HSN := Lib.hid hsn
              have HJK := Lib.hid hjk
              obtain ⟨k1, hk1⟩ : ∃ k1, gk = k1 + 1 := ⟨gk - 1, by omega⟩
              have HK1 := Lib.hid hk1
              have HNE := Lib.hid (show decide (u ≠ v) = true by simpa using he)
              clear hbw2 hbw hall hsn huv hjk hk1
              go_wp2_with fail
              go_roundg k1
              case measure => have := HK1.out; omega
              case rel => exact ⟨j + 1, by go_num, Lib.hid ⟨by have := HJK.out; have := HK1.out; omega, by rw [HSN.out, List.all_append, HALL.out, List.all_cons, List.all_nil, HNE.out]; rfl, HBW.out.alloc HBW.out.size _⟩⟩
          · have hall2 : arcs.all (fun p => decide (p.1 ≠ p.2)) = true := by rw [List.take_of_length_le (by omega)] at hall; exact hall
            have j0 : (arcs.length : Int) ≤ (j : Int) := by omega
            have HALL := Lib.hid hall2
            have HBW := Lib.hid hbw
            clear hall hall2 hbw hjk hj
            go_wp2_with fail
            refine (comps_calls _ gg l.length k c next A out comp ?_ hn HCP.out).mono ?_
            · have := HG.out.below HBW.out
              exact this.widen HBW.out.size
            rintro e w2 ⟨bc, rfl, _, _, hb2⟩
            have HB2 := Lib.hid hb2
            clear hb2
            by_cases hnl : next = l.length
            · have e1 : ((next : Int) == (l.length : Int)) = true := by rw [hnl]; simp
              have HNL := Lib.hid hnl
              clear hnl
              go_wp2_with fail
              go_ret2
              have hnl := HNL.out
              refine ⟨(HB.out.trans (HBW.out.mono HB.out.size)).trans (HB2.out.mono (Nat.le_trans HB.out.size HBW.out.size)), ?_⟩
              have hfin : acyB arcs next l.length = decide (next = l.length) := by rw [acyB, if_pos HALL.out]
              rw [hfin]
              simp [hnl]
            · have e1 : ((next : Int) == (l.length : Int)) = false := beq_eq_false_iff_ne.2 (by omega)
              have HNL := Lib.hid hnl
              clear hnl
              go_wp2_with fail
              go_ret2
              have hnl := HNL.out
              refine ⟨(HB.out.trans (HBW.out.mono HB.out.size)).trans (HB2.out.mono (Nat.le_trans HB.out.size HBW.out.size)), ?_⟩
              have hfin : acyB arcs next l.length = decide (next = l.length) := by rw [acyB, if_pos HALL.out]
              rw [hfin]
              simp [hnl]
  · rw [if_neg hc] at hM hR
    subst hM
    obtain rfl := Option.some.inj hR
    have HB := Lib.hid hb
    clear hb hR HR hc
    go_wp2_with fail
    go_ret2
    exact ⟨HB.out, rfl⟩

end Go.Proofs.Ythlmffjafeodlaa.Scc
