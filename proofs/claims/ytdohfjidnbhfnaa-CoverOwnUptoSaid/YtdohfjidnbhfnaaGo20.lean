/- scc.Acyclic: the model and the walk. -/
import Derived.Test.YtdohfjidnbhfnaaGo19
import Derived.Test.YtdohfjidnbhfnaaGo13
import Derived.Test.YtdohfjidnbhfnaaRows
import Derived.ProofKit
import Derived.OpenShut
import Derived.Carry
import Derived.Deep.SlicePairs
import Derived.Test.YtdohfjidnbhfnaaGo1
namespace Go.Proofs.Ytdohfjidnbhfnaa.Scc
open Go Go.RowKit Go.Proofs.Ytdohfjidnbhfnaa.Mem Go.Proofs.Ytdohfjidnbhfnaa.Tj Go.Proofs.Ytdohfjidnbhfnaa.Sl Go.Proofs.YtdohfjidnbhfnaaW.PrintWords Go.Proofs.YtdohfjidnbhfnaaW.PrintLast
attribute [local go_sem ↓] Go.wp_at_zero Go.wp_at_succ
set_option linter.unusedSimpArgs false
set_option linter.unusedVariables false

theorem Gr.widen {w : World} {G G' gg n : Nat} {vsv : Value} {out : List (List Nat)} (h : Gr w G gg n vsv out) (hG : G ≤ G') : Gr w G' gg n vsv out := by
  obtain ⟨bo, vals, h1, h2, h3, h4, h5, h6⟩ := h.some
  refine ⟨h.lenOut, bo, vals, h1, h2, by omega, by omega, h5, fun u r hu => ?_⟩
  obtain ⟨A, c, g1, g2, g3⟩ := h6 u r hu
  exact ⟨A, c, g1, g2, fun j x hx => by
    obtain ⟨b, e1, e2, e3⟩ := g3 j x hx
    exact ⟨b, e1, by omega, e3⟩⟩

def AcyPost (w : World) (R : Nat × Bool) (e : Ending) (w' : World) : Prop :=
  Below w.heap.size w w' ∧ e = .returned (.tuple #[.bool R.2, .int .i64 (R.1 : Int)])

set_option maxHeartbeats 8000000 in
set_option maxRecDepth 100000 in
theorem acy_calls (w : World) (Av Aa : Option Addr) (cv ca k : Nat) (l : List Int) (arcs : List (Int × Int)) (R : Nat × Bool) (hv : RdI w Av l) (ha : RdA w Aa arcs) (hn : l.length ≤ 1000000) (hm : arcs.length ≤ 1000000)
    (hR : acyS l arcs (sorted l) k = some R) :
    Calls Try.prog 26 #[.slice Av l.length cv, .slice Aa arcs.length ca] w fun e w' => AcyPost w R e w' := by
  have HM := Lib.hid (made_calls w Av Aa cv ca l arcs hv ha hn hm)
  have HR := Lib.hid hR
  have HA := Lib.hid ha
  clear hv ha hR
  go_enter Try.func26, Try.ntmps26
  go_wp2_with fail
  refine HM.out.mono ?_
  clear HM
  rintro e w1 ⟨hb, hM⟩
  have hR := HR.out
  unfold acyS at hR
  by_cases hc : (Lib.compact (sorted l)).length = l.length
  · rw [if_pos hc] at hM hR
    cases ho : arcsS (sorted l) arcs (List.replicate l.length []) with
    | none =>
      rw [ho] at hM hR
      dsimp only at hM
      subst hM
      obtain rfl := Option.some.inj hR
      have HB := Lib.hid hb
      clear hb hR HR hc ho
      go_wp2_with fail
      go_ret2
      exact ⟨HB.out, rfl⟩
    | some out =>
      rw [ho] at hM hR
      dsimp only at hM hR
      obtain ⟨gg, A, c, rfl, hg, hrd⟩ := hM
      cases hcp : compsS l.length out k with
      | none => rw [hcp] at hR; cases hR
      | some cp =>
        obtain ⟨comp, next⟩ := cp
        rw [hcp, Option.map_some] at hR
        obtain rfl := Option.some.inj hR
        have HB := Lib.hid hb
        have HG := Lib.hid hg
        have HCP := Lib.hid hcp
        clear hb hg hrd hcp hR HR hc ho
        go_wp2_with fail
        go_loopg [23] arcs.length (fun kq v23 w' => ∃ j : Nat, v23 = .int .i64 (j : Int) ∧ Hid (j + kq = arcs.length ∧ (arcs.take j).all (fun p => decide (p.1 ≠ p.2)) = true ∧ Below w1.heap.size w1 w'))
        case atStart => exact ⟨0, rfl, Lib.hid ⟨by omega, by simp, Below.refl _ _⟩⟩
        case round =>
          obtain ⟨j, rfl, hI⟩ := hrel
          obtain ⟨hjk, hall, hbw⟩ := hI.out
          clear hI
          by_cases hj : j < arcs.length
          · obtain ⟨u, v, huv⟩ : ∃ u v, arcs[j] = (u, v) := ⟨_, _, rfl⟩
            have hbw2 := HB.out.trans (hbw.mono HB.out.size)
            obtain ⟨ba, rfl, hcu, hcv⟩ := (HA.out.below hbw2) j u v (by rw [List.getElem?_eq_getElem hj, huv])
            have j0 : (0 : Int) ≤ (j : Int) := by omega
            have j1 : (j : Int) < (arcs.length : Int) := by omega
            have j2 : (arcs.length : Int) ≤ 1000000 := by omega
            have hsn : arcs.take (j + 1) = arcs.take j ++ [(u, v)] := by rw [List.take_add_one, List.getElem?_eq_getElem hj, huv]; rfl
            by_cases he : u = v
            · have hno : arcs.all (fun p => decide (p.1 ≠ p.2)) = false := by
                rw [List.all_eq_false]
                exact ⟨(u, v), huv ▸ List.getElem_mem hj, by simp [he]⟩
              have HNO := Lib.hid hno
              have HBW := Lib.hid hbw2
              subst he
              clear hno hbw2 hbw hall hsn huv hjk
              go_wp2_with fail
              go_ret2
              refine ⟨HBW.out.alloc HBW.out.size _, ?_⟩
              have hfin : acyB arcs next l.length = false := by rw [acyB, HNO.out]; rfl
              rw [hfin]
              rfl
            · have e1 : ((u : Int) == v) = false := beq_eq_false_iff_ne.2 he
              have HALL := Lib.hid hall
              have HBW := Lib.hid hbw
              have HSN := Lib.hid hsn
              have HJK := Lib.hid hjk
              obtain ⟨k1, hk1⟩ : ∃ k1, gk = k1 + 1 := ⟨gk - 1, by omega⟩
              have HK1 := Lib.hid hk1
              have HNE := Lib.hid (show decide (u ≠ v) = true by simpa using he)
              clear hbw2 hbw hall hsn huv hjk hk1
              go_wp2_with fail
              go_roundg k1
              case measure => have := HK1.out; omega
              case rel => exact ⟨j + 1, by go_num, Lib.hid ⟨by have := HJK.out; have := HK1.out; omega, by rw [HSN.out, List.all_append, HALL.out, List.all_cons, List.all_nil, HNE.out]; rfl, HBW.out.alloc HBW.out.size _⟩⟩
          · have hall2 : arcs.all (fun p => decide (p.1 ≠ p.2)) = true := by rw [List.take_of_length_le (by omega)] at hall; exact hall
            have j0 : (arcs.length : Int) ≤ (j : Int) := by omega
            have HALL := Lib.hid hall2
            have HBW := Lib.hid hbw
            clear hall hall2 hbw hjk hj
            go_wp2_with fail
            refine (comps_calls _ gg l.length k c next A out comp ?_ hn HCP.out).mono ?_
            · have := HG.out.below HBW.out
              exact this.widen HBW.out.size
            rintro e w2 ⟨bc, rfl, _, _, hb2⟩
            have HB2 := Lib.hid hb2
            clear hb2
            by_cases hnl : next = l.length
            · have e1 : ((next : Int) == (l.length : Int)) = true := by rw [hnl]; simp
              have HNL := Lib.hid hnl
              clear hnl
              go_wp2_with fail
              go_ret2
              have hnl := HNL.out
              refine ⟨(HB.out.trans (HBW.out.mono HB.out.size)).trans (HB2.out.mono (Nat.le_trans HB.out.size HBW.out.size)), ?_⟩
              have hfin : acyB arcs next l.length = decide (next = l.length) := by rw [acyB, if_pos HALL.out]
              rw [hfin]
              simp [hnl]
            · have e1 : ((next : Int) == (l.length : Int)) = false := beq_eq_false_iff_ne.2 (by omega)
              have HNL := Lib.hid hnl
              clear hnl
              go_wp2_with fail
              go_ret2
              have hnl := HNL.out
              refine ⟨(HB.out.trans (HBW.out.mono HB.out.size)).trans (HB2.out.mono (Nat.le_trans HB.out.size HBW.out.size)), ?_⟩
              have hfin : acyB arcs next l.length = decide (next = l.length) := by rw [acyB, if_pos HALL.out]
              rw [hfin]
              simp [hnl]
  · rw [if_neg hc] at hM hR
    subst hM
    obtain rfl := Option.some.inj hR
    have HB := Lib.hid hb
    clear hb hR HR hc
    go_wp2_with fail
    go_ret2
    exact ⟨HB.out, rfl⟩

end Go.Proofs.Ytdohfjidnbhfnaa.Scc

/- The three functions at lists that can be read: what they answer can be read. -/
namespace Go.Proofs.Ytdohfjidnbhfnaa.Lw
open Go Go.RowKit Go.Proofs.Ytdohfjidnbhfnaa.Mem Go.Proofs.Ytdohfjidnbhfnaa.Sl Go.Proofs.Ytdohfjidnbhfnaa.Scc Go.Proofs.Ytdohfjidnbhfnaa.Tj Go.Proofs.YtdohfjidnbhfnaaW.PrintWords Go.Proofs.YtdohfjidnbhfnaaW.PrintLast
attribute [local go_sem ↓] Go.wp_at_zero Go.wp_at_succ
set_option linter.unusedSimpArgs false
set_option linter.unusedVariables false

theorem ArgV.below {w w' : World} {v : Value} {n size : Nat} {news : List Value} (h : ArgV w v n size news) (hb : Below w.heap.size w w') : ArgV w' v n size news := by
  refine ⟨h.1, h.2.1, h.2.2.imp id ?_⟩
  rintro ⟨ad, c, e, hn, hc⟩
  exact ⟨ad, c, e, hn, fun j u hu => (hb.cell (World.block_lt_of_cell? w _ (hc j u hu))).trans (hc j u hu)⟩

theorem RdL.nil (w : World) (A : Option Addr) : RdL w A [] := fun i r h => by simp at h

theorem One.start {w0 : World} {e : TypeId} {size : Nat} : One w0 e size (.slice none 0 0) 0 [] w0 := ⟨World.ownsRow_nil _ _ _ _, Below.refl _ _⟩
theorem One.startAt {w0 W : World} {e : TypeId} {size : Nat} (hb : Below w0.heap.size w0 W) : One w0 e size (.slice none 0 0) 0 [] W := ⟨World.ownsRow_nil _ _ _ _, hb⟩
theorem Two.startAt {w0 W : World} {e e' : TypeId} {size size' : Nat} (hb : Below w0.heap.size w0 W) : Two w0 e size (.slice none 0 0) 0 [] e' size' (.slice none 0 0) 0 [] W := ⟨World.ownsRow_nil _ _ _ _, World.ownsRow_nil _ _ _ _, fun k h => by simp [Value.ownBlock] at h, hb⟩

theorem cell_al {w : World} {a : Addr} {v : Value} (h : w.cell? a = some v) (o : Obj) : (w.alloc o).cell? a = some v :=
  (((Below.refl w.heap.size w).alloc (Nat.le_refl _) o).cell (World.block_lt_of_cell? w _ h)).trans h
theorem grpZ_length (comp : List Nat) (sl : List Int) (c : Nat) : (grpZ comp sl c).length ≤ comp.length := by
  unfold grpZ
  rw [List.length_map]
  refine Nat.le_trans (List.length_filter_le _ _) ?_
  rw [List.length_zip]
  exact Nat.min_le_left _ _
end Go.Proofs.Ytdohfjidnbhfnaa.Lw

/- The arguments of the laws read as lists. -/
namespace Go.Proofs.Ytdohfjidnbhfnaa.Lw
open Go Go.RowKit Go.ChangeShapes Go.WideShapes Go.ChangeAt Go.Deep Go.Proofs.Ytdohfjidnbhfnaa.Mem
set_option linter.unusedSimpArgs false
set_option linter.unusedVariables false

theorem own : ownKnob Try.prog.godebug = none := by kernel_rfl
theorem laidOut : laidOutB Try.prog = true := by kernel_rfl
theorem cells_int : Try.prog.cellsOf 3 = 1 := by kernel_rfl
theorem cells_arc : Try.prog.cellsOf 38 = 2 := by kernel_rfl
theorem arc_fields : ∃ f0 f1 : Field, Try.prog.underlying 38 = some (.struct #[f0, f1]) ∧ f0.offset = 0 ∧ f1.offset = 1 ∧ f0.type = 3 ∧ f1.type = 3 :=
  ⟨_, _, Try.underlying38, rfl, rfl, rfl, rfl⟩

section
variable {H : Type} {enc : TypeId × Value → H} {W : World} {base : Nat} {v : Value} {d : DataW H} {p : List MemPlace}

set_option maxRecDepth 100000 in
theorem arcs_in (hv : Value.okWide Try.prog W .any base 22 v) (h : DataW.Trod enc Try.prog W 0 (fun _ => true) true 22 v d p) : ∃ l : List (Int × Int), ArgV W v l.length 2 (arcs2 l) := by
  obtain ⟨a0, len, cap, rfl⟩ := okWide_slice Try.underlying22 hv
  obtain ⟨fuel, hf⟩ := h
  obtain ⟨f0, f1, hu, o0, o1, t0, t1⟩ := arc_fields
  rcases open_slice_pairs Try.underlying22 hu cells_arc o0 o1 (by rw [t0]; exact cells_int) (by rw [t1]; exact cells_int) hf with ⟨hcs, hx⟩ | ⟨a, len', cap', m, n, V0, V1, D0, D1, P0, P1, hcs, _, hl, hm, hmm, hx, hcell⟩
  · simp [Value.cells] at hcs
    obtain ⟨rfl, rfl, rfl⟩ := hcs
    exact ⟨[], rfl, by simp [arcs2], .inl ⟨rfl, rfl⟩⟩
  · simp [Value.cells] at hcs
    obtain ⟨rfl, rfl, rfl⟩ := hcs
    simp only [if_true] at hmm
    have num : ∀ i, i < m → ∃ q : Int × Int, W.cell? (a.add (i * 2)) = some (.int .i64 q.1) ∧ W.cell? (a.add (i * 2 + 1)) = some (.int .i64 q.2) := by
      intro i hi
      obtain ⟨h0, h1, h2, h3⟩ := hcell i hi
      rw [t0] at h2
      rw [t1] at h3
      obtain ⟨x, hx0, _⟩ := DataW.trod_int Try.underlying3 h2
      obtain ⟨y, hy0, _⟩ := DataW.trod_int Try.underlying3 h3
      rw [List.cons.inj hx0 |>.1] at h0
      rw [List.cons.inj hy0 |>.1] at h1
      exact ⟨(x, y), h0, h1⟩
    obtain ⟨q, hq⟩ := choose_lt num
    have hlen : ((List.range len).map q).length = len := by simp
    refine ⟨(List.range len).map q, arcs2_length _, arcs2_one _, .inr ⟨a, cap, by rw [hlen], by rw [hlen]; exact hl, fun j u hu => ?_⟩⟩
    have hj : j < len * 2 := by
      have := (List.getElem?_eq_some_iff.1 hu).1
      rw [arcs2_length, hlen] at this
      exact this
    have hget : ((List.range len).map q)[j / 2]? = some ((q (j / 2)).1, (q (j / 2)).2) := by
      rw [List.getElem?_map, List.getElem?_range (by omega)]
      rfl
    have h2 := arcs2_at _ _ _ _ hget
    have h3 := hq (j / 2) (by omega)
    rcases Nat.mod_two_eq_zero_or_one j with h | h
    · have e : j / 2 * 2 = j := by omega
      rw [e] at h2 h3
      rw [h3.1, ← hu, h2.1]
    · have e : j / 2 * 2 + 1 = j := by omega
      rw [e] at h2 h3
      rw [h3.2, ← hu, h2.2]
end

end Go.Proofs.Ytdohfjidnbhfnaa.Lw

/- Plain laws on places, and a ring through all vertices: one component. -/
namespace Go.Proofs.Ytdohfjidnbhfnaa.Tj
open Go.Proofs.Ytdohfjidnbhfnaa.Sl Go.Proofs.Ytdohfjidnbhfnaa.Lw
set_option linter.unusedVariables false

theorem place_at : ∀ (sl : List Int) (x : Nat), sl.Pairwise (· < ·) → ∀ h : x < sl.length, place sl sl[x] = x
  | [], x, _, h => by simp at h
  | a :: r, 0, hs, h => by
    have h1 := (List.pairwise_cons.1 hs).1
    unfold place
    rw [List.getElem_cons_zero, List.countP_cons_of_neg (by simp), List.countP_eq_zero]
    intro b hb
    have := h1 b hb
    simp
    omega
  | a :: r, x + 1, hs, h => by
    have h1 := List.pairwise_cons.1 hs
    have hx : x < r.length := by simpa using h
    have := place_at r x h1.2 hx
    unfold place at *
    rw [List.getElem_cons_succ, List.countP_cons_of_pos (by simpa using h1.1 _ (List.getElem_mem hx)), this]

theorem mem_place {sl : List Int} (hs : sl.Pairwise (· < ·)) {x : Int} (h : x ∈ sl) : ∃ i, ∃ hi : i < sl.length, sl[i] = x ∧ place sl x = i := by
  obtain ⟨i, hi, he⟩ := List.getElem_of_mem h
  exact ⟨i, hi, he, he ▸ place_at sl i hs hi⟩
theorem place_lt {sl : List Int} (hs : sl.Pairwise (· < ·)) {x : Int} (h : x ∈ sl) : place sl x < sl.length := by
  obtain ⟨i, hi, _, e⟩ := mem_place hs h
  omega

end Go.Proofs.Ytdohfjidnbhfnaa.Tj

/- cover, plainly: the forest, its numbers. -/
namespace Go.Proofs.Ytdohfjidnbhfnaa.Cv
set_option linter.unusedSimpArgs false
set_option linter.unusedVariables false
open Go.Proofs.Ytdohfjidnbhfnaa.Tj

def kidsOf (pars : List Int) (u : Int) : List Nat := (List.range pars.length).filter fun v => decide (pars.getD v 0 = u)
theorem mem_kids {pars : List Int} {u : Int} {v : Nat} : v ∈ kidsOf pars u ↔ v < pars.length ∧ pars.getD v 0 = u := by
  simp [kidsOf]
theorem kids_nodup (pars : List Int) (u : Int) : (kidsOf pars u).Nodup := List.nodup_range.filter _

def belL (f : Int → Option (List Nat)) : List Nat → Option (List Nat)
  | [] => some []
  | w :: r => (f (w : Int)).bind fun a => (belL f r).map fun b => a ++ w :: b
def bel (pars : List Int) : Nat → Int → Option (List Nat)
  | 0, _ => none
  | k + 1, u => belL (bel pars k) (kidsOf pars u)
theorem belL_mono {f f' : Int → Option (List Nat)} (hf : ∀ w l, f w = some l → f' w = some l) : ∀ (r l : List Nat), belL f r = some l → belL f' r = some l
  | [], l, h => h
  | w :: r, l, h => by
    rw [belL] at h ⊢
    cases ha : f (w : Int) with
    | none => rw [ha] at h; cases h
    | some a =>
      rw [ha, Option.bind_some] at h
      cases hb : belL f r with
      | none => rw [hb] at h; cases h
      | some b =>
        rw [hf _ _ ha, Option.bind_some, belL_mono hf r b hb]
        rw [hb] at h
        exact h
theorem bel_mono {pars : List Int} : ∀ (k : Nat) (u : Int) (l : List Nat), bel pars k u = some l → bel pars (k + 1) u = some l
  | 0, u, l, h => by cases h
  | k + 1, u, l, h => belL_mono (fun w l => bel_mono k w l) _ _ h
theorem bel_mono_le {pars : List Int} {k k' : Nat} {u : Int} {l : List Nat} (h : bel pars k u = some l) (hk : k ≤ k') : bel pars k' u = some l := by
  obtain ⟨d, rfl⟩ := Nat.exists_eq_add_of_le hk
  induction d with
  | zero => exact h
  | succ d ih => exact bel_mono _ _ _ (ih (by omega))
theorem belL_some {f : Int → Option (List Nat)} : ∀ r : List Nat, (∀ w ∈ r, ∃ l, f (w : Int) = some l) → ∃ l, belL f r = some l
  | [], _ => ⟨_, rfl⟩
  | w :: r, h => by
    obtain ⟨a, ha⟩ := h w (by simp)
    obtain ⟨b, hb⟩ := belL_some r fun x hx => h x (by simp [hx])
    exact ⟨a ++ w :: b, by rw [belL, ha, Option.bind_some, hb]; rfl⟩

structure Rk (n : Nat) (pars : List Int) (rk : Nat → Nat) : Prop where
  len : pars.length = n
  lt : ∀ v, v < n → rk v < n
  par : ∀ v, v < n → pars.getD v 0 = -1 ∨ ∃ p, p < n ∧ pars.getD v 0 = (p : Int) ∧ rk p < rk v
def Val (n : Nat) (u : Int) : Prop := u = -1 ∨ ∃ p, p < n ∧ u = ((p : Nat) : Int)

section
variable {n : Nat} {pars : List Int} {rk : Nat → Nat}
theorem Rk.kid (h : Rk n pars rk) {u : Int} {w : Nat} (hw : w ∈ kidsOf pars u) : w < n ∧ pars.getD w 0 = u := by
  obtain ⟨h1, h2⟩ := mem_kids.1 hw
  exact ⟨by rw [← h.len]; exact h1, h2⟩
theorem Rk.kid_rk (h : Rk n pars rk) {p w : Nat} (hw : w ∈ kidsOf pars (p : Int)) : rk p < rk w := by
  obtain ⟨h1, h2⟩ := h.kid hw
  rcases h.par w h1 with h3 | ⟨q, h3, h4, h5⟩
  · omega
  · have : q = p := by omega
    exact this ▸ h5
theorem bel_some (h : Rk n pars rk) : ∀ (k : Nat) (u : Int), (u = -1 ∧ n + 2 ≤ k ∨ ∃ p, p < n ∧ u = ((p : Nat) : Int) ∧ n < k + rk p) → ∃ l, bel pars k u = some l
  | 0, u, hu => by
    rcases hu with ⟨_, h1⟩ | ⟨p, h1, _, h2⟩
    · omega
    · have := h.lt p h1; omega
  | k + 1, u, hu => belL_some _ fun w hw => by
    obtain ⟨h1, h2⟩ := h.kid hw
    refine bel_some h k w (.inr ⟨w, h1, rfl, ?_⟩)
    rcases hu with ⟨_, h3⟩ | ⟨p, h3, rfl, h4⟩
    · omega
    · have := h.kid_rk hw; omega
def bl (pars : List Int) (u : Int) : List Nat := (bel pars (pars.length + 2) u).getD []
theorem bel_full (h : Rk n pars rk) {u : Int} (hu : Val n u) : bel pars (n + 2) u = some (bl pars u) := by
  obtain ⟨l, hl⟩ := bel_some h (n + 2) u (hu.imp (fun e => ⟨e, Nat.le_refl _⟩) fun ⟨p, h1, h2⟩ => ⟨p, h1, h2, by omega⟩)
  unfold bl
  rw [h.len, hl]
  rfl
theorem bel_bl (h : Rk n pars rk) {k : Nat} {u : Int} {l : List Nat} (hu : Val n u) (hl : bel pars k u = some l) : l = bl pars u := by
  have h1 := bel_full h hu
  rcases Nat.le_total k (n + 2) with hk | hk
  · rw [bel_mono_le hl hk] at h1
    exact Option.some.inj h1
  · rw [bel_mono_le h1 hk] at hl
    exact (Option.some.inj hl).symm
theorem bl_eq (h : Rk n pars rk) {u : Int} (hu : Val n u) : bl pars u = (kidsOf pars u).flatMap fun w : Nat => bl pars (w : Int) ++ [w] := by
  have h1 := bel_full h hu
  rw [bel] at h1
  have h2 : ∀ (r : List Nat) (l : List Nat), (∀ w ∈ r, w < n) → belL (bel pars (n + 1)) r = some l → l = r.flatMap fun w : Nat => bl pars (w : Int) ++ [w] := by
    intro r
    induction r with
    | nil => intro l _ hl; cases hl; rfl
    | cons w r ih =>
      intro l hw hl
      rw [belL] at hl
      cases ha : bel pars (n + 1) (w : Int) with
      | none => rw [ha] at hl; cases hl
      | some a =>
        rw [ha, Option.bind_some] at hl
        cases hb : belL (bel pars (n + 1)) r with
        | none => rw [hb] at hl; cases hl
        | some b =>
          rw [hb] at hl
          have e1 := ih b (fun x hx => hw x (by simp [hx])) hb
          have e2 := bel_bl h (.inr ⟨w, hw w (by simp), rfl⟩) ha
          have e3 : a ++ w :: b = l := Option.some.inj hl
          rw [← e3, e1, e2]
          simp
  exact h2 _ _ (fun w hw => (h.kid hw).1) h1
theorem tree_ind (h : Rk n pars rk) {P : Int → Prop} (hP : ∀ u, Val n u → (∀ w ∈ kidsOf pars u, P (w : Int)) → P u) : ∀ u, Val n u → P u := by
  have h1 : ∀ (m p : Nat), p < n → n - rk p ≤ m → P (p : Int) := by
    intro m
    induction m with
    | zero => intro p hp hm; have := h.lt p hp; omega
    | succ m ih =>
      intro p hp hm
      refine hP _ (.inr ⟨p, hp, rfl⟩) fun w hw => ih w (h.kid hw).1 ?_
      have := h.kid_rk hw
      have := h.lt w (h.kid hw).1
      omega
  intro u hu
  rcases hu with rfl | ⟨p, hp, rfl⟩
  · exact hP _ (.inl rfl) fun w hw => h1 _ w (h.kid hw).1 (Nat.le_refl _)
  · exact h1 _ p hp (Nat.le_refl _)
theorem mem_bl (h : Rk n pars rk) {u : Int} (hu : Val n u) {x : Nat} : x ∈ bl pars u ↔ ∃ w ∈ kidsOf pars u, x ∈ bl pars w ∨ x = w := by
  rw [bl_eq h hu]
  simp
theorem bl_rk (h : Rk n pars rk) : ∀ u, Val n u → ∀ x ∈ bl pars u, x < n ∧ ∀ p : Nat, u = (p : Int) → rk p < rk x :=
  tree_ind h fun u hu ih x hx => by
    obtain ⟨w, hw, hx⟩ := (mem_bl h hu).1 hx
    have h1 := h.kid hw
    rcases hx with hx | rfl
    · obtain ⟨g1, g2⟩ := ih w hw x hx
      refine ⟨g1, fun p hp => ?_⟩
      subst hp
      have := g2 w rfl
      have := h.kid_rk hw
      omega
    · refine ⟨h1.1, fun p hp => ?_⟩
      subst hp
      exact h.kid_rk hw
theorem bl_par (h : Rk n pars rk) : ∀ u, Val n u → ∀ x ∈ bl pars u, pars.getD x 0 = u ∨ ∃ y ∈ bl pars u, pars.getD x 0 = ((y : Nat) : Int) :=
  tree_ind h fun u hu ih x hx => by
    obtain ⟨w, hw, hx⟩ := (mem_bl h hu).1 hx
    rcases hx with hx | rfl
    · rcases ih w hw x hx with h1 | ⟨y, h1, h2⟩
      · exact .inr ⟨w, (mem_bl h hu).2 ⟨w, hw, .inr rfl⟩, h1⟩
      · exact .inr ⟨y, (mem_bl h hu).2 ⟨w, hw, .inl h1⟩, h2⟩
    · exact .inl (h.kid hw).2
theorem bl_kid (h : Rk n pars rk) : ∀ u, Val n u → ∀ x ∈ bl pars u, ∀ w ∈ kidsOf pars (x : Int), w ∈ bl pars u :=
  tree_ind h fun u hu ih x hx z hz => by
    obtain ⟨w, hw, hx⟩ := (mem_bl h hu).1 hx
    rcases hx with hx | rfl
    · exact (mem_bl h hu).2 ⟨w, hw, .inl (ih w hw x hx z hz)⟩
    · exact (mem_bl h hu).2 ⟨x, hw, .inl ((mem_bl h (.inr ⟨x, (h.kid hw).1, rfl⟩)).2 ⟨z, hz, .inr rfl⟩)⟩
theorem bl_all (h : Rk n pars rk) : ∀ v, v < n → v ∈ bl pars (-1) := by
  have h1 : ∀ (m v : Nat), v < n → rk v ≤ m → v ∈ bl pars (-1) := by
    intro m
    induction m with
    | zero =>
      intro v hv hm
      rcases h.par v hv with h2 | ⟨p, _, _, h3⟩
      · exact (mem_bl h (.inl rfl)).2 ⟨v, mem_kids.2 ⟨by rw [h.len]; exact hv, h2⟩, .inr rfl⟩
      · omega
    | succ m ih =>
      intro v hv hm
      rcases h.par v hv with h2 | ⟨p, hp, h3, h4⟩
      · exact (mem_bl h (.inl rfl)).2 ⟨v, mem_kids.2 ⟨by rw [h.len]; exact hv, h2⟩, .inr rfl⟩
      · exact bl_kid h _ (.inl rfl) p (ih p hp (by omega)) v (mem_kids.2 ⟨by rw [h.len]; exact hv, h3⟩)
  exact fun v hv => h1 _ v hv (Nat.le_refl _)
theorem bl_apart (h : Rk n pars rk) {u : Int} {w1 w2 : Nat} (h1 : w1 ∈ kidsOf pars u) (h2 : w2 ∈ kidsOf pars u) : ∀ (m x : Nat), rk x ≤ m → (x ∈ bl pars w1 ∨ x = w1) → (x ∈ bl pars w2 ∨ x = w2) → w1 = w2 := by
  have k1 := h.kid h1
  have k2 := h.kid h2
  have key : ∀ a b : Nat, a ∈ kidsOf pars u → b ∈ kidsOf pars u → a ∈ bl pars b → False := by
    intro a b ha hb hm
    have ka := h.kid ha
    have kb := h.kid hb
    rcases bl_par h b (.inr ⟨b, kb.1, rfl⟩) a hm with e | ⟨y, hy, e⟩
    · have := (bl_rk h b (.inr ⟨b, kb.1, rfl⟩) a hm).2 b rfl
      have hub : u = (b : Int) := by rw [← ka.2]; exact e
      subst hub
      have := h.kid_rk hb
      omega
    · have hy1 := bl_rk h b (.inr ⟨b, kb.1, rfl⟩) y hy
      have huy : u = (y : Int) := by rw [← ka.2]; exact e
      subst huy
      have := h.kid_rk hb
      have := hy1.2 b rfl
      omega
  intro m
  induction m with
  | zero =>
    intro x hx m1 m2
    rcases m1 with m1 | rfl
    · have := (bl_rk h w1 (.inr ⟨w1, k1.1, rfl⟩) x m1).2 w1 rfl; omega
    · rcases m2 with m2 | m2
      · exact (key _ _ h1 h2 m2).elim
      · exact m2
  | succ m ih =>
    intro x hx m1 m2
    rcases m1 with m1 | rfl
    · rcases m2 with m2 | rfl
      · have g1 := bl_rk h w1 (.inr ⟨w1, k1.1, rfl⟩) x m1
        obtain ⟨y, hy, hy1⟩ : ∃ y : Nat, pars.getD x 0 = (y : Int) ∧ (y ∈ bl pars w1 ∨ y = w1) := by
          rcases bl_par h w1 (.inr ⟨w1, k1.1, rfl⟩) x m1 with e | ⟨y, e1, e2⟩
          · exact ⟨w1, e, .inr rfl⟩
          · exact ⟨y, e2, .inl e1⟩
        have hy2 : y ∈ bl pars w2 ∨ y = w2 := by
          rcases bl_par h w2 (.inr ⟨w2, k2.1, rfl⟩) x m2 with e | ⟨z, e1, e2⟩
          · exact .inr (by omega)
          · have : y = z := by omega
            exact .inl (this ▸ e1)
        have hr : rk y < rk x := h.kid_rk (mem_kids.2 ⟨by rw [h.len]; exact g1.1, hy⟩)
        exact ih y (by omega) hy1 hy2
      · exact (key _ _ h2 h1 m1).elim
    · rcases m2 with m2 | m2
      · exact (key _ _ h1 h2 m2).elim
      · exact m2
theorem bl_nodup (h : Rk n pars rk) : ∀ u, Val n u → (bl pars u).Nodup :=
  tree_ind h fun u hu ih => by
    rw [bl_eq h hu]
    have h1 : ∀ r : List Nat, r.Nodup → (∀ w ∈ r, w ∈ kidsOf pars u) → (r.flatMap fun w : Nat => bl pars (w : Int) ++ [w]).Nodup := by
      intro r
      induction r with
      | nil => intro _ _; exact List.nodup_nil
      | cons w r ihr =>
        intro hn hr
        rw [List.flatMap_cons, List.nodup_append]
        have hw := hr w (by simp)
        have kw := h.kid hw
        rw [List.nodup_cons] at hn
        refine ⟨?_, ihr hn.2 fun x hx => hr x (by simp [hx]), ?_⟩
        · rw [List.nodup_append]
          refine ⟨ih w hw, by simp, ?_⟩
          intro a ha b hb
          have hb' : b = w := by simpa using hb
          subst hb'
          have := (bl_rk h b (.inr ⟨b, kw.1, rfl⟩) a ha).2 b rfl
          intro e
          subst e
          omega
        · intro a ha b hb e
          subst e
          obtain ⟨w', hw', hb⟩ := List.mem_flatMap.1 hb
          have m1 : a ∈ bl pars w ∨ a = w := by simpa using ha
          have m2 : a ∈ bl pars w' ∨ a = w' := by simpa using hb
          have := bl_apart h hw (hr w' (by simp [hw'])) _ a (Nat.le_refl _) m1 m2
          subst this
          exact hn.1 hw'
    exact h1 _ (kids_nodup _ _) fun w hw => hw
theorem bl_block (h : Rk n pars rk) : ∀ u, Val n u → ∀ x ∈ bl pars u, ∃ a b, bl pars u = a ++ (bl pars x ++ x :: b) :=
  tree_ind h fun u hu ih x hx => by
    obtain ⟨w, hw, hx⟩ := (mem_bl h hu).1 hx
    obtain ⟨s, t, hst⟩ := List.append_of_mem hw
    have he : bl pars u = (s.flatMap fun w : Nat => bl pars (w : Int) ++ [w]) ++ (bl pars w ++ w :: (t.flatMap fun w : Nat => bl pars (w : Int) ++ [w])) := by
      rw [bl_eq h hu, hst]
      simp
    rcases hx with hx | rfl
    · obtain ⟨a, b, hab⟩ := ih w hw x hx
      refine ⟨(s.flatMap fun w : Nat => bl pars (w : Int) ++ [w]) ++ a, b ++ w :: (t.flatMap fun w : Nat => bl pars (w : Int) ++ [w]), ?_⟩
      rw [he, hab]
      simp
    · exact ⟨_, _, he⟩
end

def postN (pars : List Int) (x : Nat) : Nat := (bl pars (-1)).idxOf x + 1
def lowN (pars : List Int) (x : Nat) : Nat := postN pars x - (bl pars x).length
section
variable {n : Nat} {pars : List Int} {rk : Nat → Nat}
theorem order_perm (h : Rk n pars rk) : (bl pars (-1)).Perm (List.range n) := by
  refine (List.perm_ext_iff_of_nodup (bl_nodup h _ (.inl rfl)) List.nodup_range).2 fun a => ?_
  rw [List.mem_range]
  exact ⟨fun ha => (bl_rk h _ (.inl rfl) a ha).1, bl_all h a⟩
theorem order_len (h : Rk n pars rk) : (bl pars (-1)).length = n := by rw [(order_perm h).length_eq, List.length_range]
theorem post_at (h : Rk n pars rk) {i x : Nat} (hx : (bl pars (-1))[i]? = some x) : postN pars x = i + 1 := by
  obtain ⟨hi, he⟩ := List.getElem?_eq_some_iff.1 hx
  unfold postN
  rw [← he, (bl_nodup h _ (.inl rfl)).idxOf_getElem i hi]
theorem post_of (h : Rk n pars rk) {x : Nat} (hx : x < n) : (bl pars (-1))[postN pars x - 1]? = some x ∧ 1 ≤ postN pars x ∧ postN pars x ≤ n := by
  have hm := bl_all h x hx
  have hlt := List.idxOf_lt_length_of_mem hm
  have hl := order_len h
  refine ⟨?_, by unfold postN; omega, by unfold postN; omega⟩
  unfold postN
  rw [Nat.add_sub_cancel, List.getElem?_eq_getElem hlt, List.getElem_idxOf]
theorem post_inj (h : Rk n pars rk) {x y : Nat} (hx : x < n) (hy : y < n) (he : postN pars x = postN pars y) : x = y := by
  have h1 := (post_of h hx).1
  rw [he, (post_of h hy).1] at h1
  exact (Option.some.inj h1).symm
theorem low_post (h : Rk n pars rk) {x : Nat} (hx : x < n) : 1 ≤ lowN pars x ∧ lowN pars x ≤ postN pars x ∧ lowN pars x + (bl pars x).length = postN pars x ∧ ∀ y, (lowN pars x ≤ y ∧ y ≤ postN pars x) ↔ ∃ z, (z ∈ bl pars x ∨ z = x) ∧ postN pars z = y := by
  obtain ⟨a, b, hab⟩ := bl_block h _ (.inl rfl) x (bl_all h x hx)
  have hp : postN pars x = a.length + (bl pars x).length + 1 := by
    refine post_at h ?_
    rw [hab, List.getElem?_append_right (by omega), Nat.add_sub_cancel_left, List.getElem?_append_right (Nat.le_refl _), Nat.sub_self]
    rfl
  have hlo : lowN pars x = a.length + 1 := by unfold lowN; omega
  refine ⟨by omega, by omega, by omega, fun y => ?_⟩
  constructor
  · rintro ⟨h1, h2⟩
    rcases Nat.lt_or_ge (y - a.length - 1) (bl pars x).length with h3 | h3
    · refine ⟨(bl pars x)[y - a.length - 1], .inl (List.getElem_mem h3), ?_⟩
      have := post_at h (i := y - 1) (x := (bl pars x)[y - a.length - 1]) (by
        rw [hab, List.getElem?_append_right (by omega), List.getElem?_append_left (by omega), show y - 1 - a.length = y - a.length - 1 by omega, List.getElem?_eq_getElem h3])
      omega
    · exact ⟨x, .inr rfl, by omega⟩
  · rintro ⟨z, hz | rfl, rfl⟩
    · obtain ⟨i, hi⟩ := List.getElem?_of_mem hz
      have hi' := (List.getElem?_eq_some_iff.1 hi).1
      have := post_at h (i := a.length + i) (x := z) (by
        rw [hab, List.getElem?_append_right (by omega), Nat.add_sub_cancel_left, List.getElem?_append_left hi', hi])
      omega
    · omega
end

end Go.Proofs.Ytdohfjidnbhfnaa.Cv

/- What a step keeps: all old blocks but those that p names. -/
namespace Go.Proofs.Ytdohfjidnbhfnaa.Mem
set_option linter.unusedSimpArgs false
set_option linter.unusedVariables false
open Go Go.RowKit

structure Kpt (p : Nat → Prop) (w w' : World) : Prop where
  os : w'.os = w.os
  tape : w'.tape = w.tape
  output : w'.output = w.output
  size : w.heap.size ≤ w'.heap.size
  block : ∀ k, k < w.heap.size → ¬ p k → w'.heap[k]? = w.heap[k]?

section
variable {p p' : Nat → Prop} {w w' a b c : World}
theorem Kpt.refl (p : Nat → Prop) (w : World) : Kpt p w w := ⟨rfl, rfl, rfl, Nat.le_refl _, fun _ _ _ => rfl⟩
theorem Kpt.trans (h : Kpt p a b) (k : Kpt p b c) : Kpt p a c :=
  ⟨k.os.trans h.os, k.tape.trans h.tape, k.output.trans h.output, Nat.le_trans h.size k.size, fun i hi hn => (k.block i (Nat.lt_of_lt_of_le hi h.size) hn).trans (h.block i hi hn)⟩
theorem Kpt.mono (h : Kpt p w w') (hp : ∀ k, k < w.heap.size → p k → p' k) : Kpt p' w w' := ⟨h.os, h.tape, h.output, h.size, fun k hk hn => h.block k hk (fun x => hn (hp k hk x))⟩
theorem Kpt.trans' (h : Kpt p a b) (k : Kpt p' b c) (hp : ∀ i, i < a.heap.size → p' i → p i) : Kpt p a c :=
  ⟨k.os.trans h.os, k.tape.trans h.tape, k.output.trans h.output, Nat.le_trans h.size k.size, fun i hi hn => (k.block i (Nat.lt_of_lt_of_le hi h.size) (fun x => hn (hp i hi x))).trans (h.block i hi hn)⟩
theorem Kpt.drewN (h : Kpt p a b) (n : Nat) : Kpt p a (b.drewN n) := ⟨h.os, h.tape, h.output, h.size, h.block⟩
theorem Kpt.drew (h : Kpt p a b) : Kpt p a b.drew := ⟨h.os, h.tape, h.output, h.size, h.block⟩
theorem Kpt.alloc (h : Kpt p a b) (o : Obj) : Kpt p a (b.alloc o) :=
  h.trans ⟨rfl, rfl, rfl, by simp, fun k hk _ => Below.heap_alloc _ _ _ hk⟩
theorem Kpt.set (h : Kpt p a b) {q : Addr} (hq : q.block < a.heap.size → p q.block) (u : Value) : Kpt p a (b.setCell q u) :=
  ⟨h.os, h.tape, h.output, by have := h.size; simpa [World.setCell] using this, fun k hk hn => by
    rw [Below.heap_setCell _ _ _ _ (fun e => hn (by subst e; exact hq hk))]
    exact h.block k hk hn⟩
theorem Kpt.grown (h : Kpt p a b) {row : Option Nat} (hg : b.grownBy c row) (hr : ∀ k, row = some k → k < a.heap.size → p k) : Kpt p a c :=
  ⟨hg.os.trans h.os, hg.tape.trans h.tape, hg.output.trans h.output, Nat.le_trans h.size hg.size, fun k hk hn => (hg.block k (Nat.lt_of_lt_of_le hk h.size) (fun e => hn (hr k e.symm hk))).trans (h.block k hk hn)⟩
theorem Kpt.below (h : Kpt p a b) (k : Below b.heap.size b c) : Kpt p a c :=
  ⟨k.os.trans h.os, k.tape.trans h.tape, k.output.trans h.output, Nat.le_trans h.size k.size, fun i hi hn => (k.block i (Nat.lt_of_lt_of_le hi h.size)).trans (h.block i hi hn)⟩
theorem Kpt.of_below (k : Below w.heap.size w w') : Kpt p w w' := (Kpt.refl p w).below k
theorem Kpt.to_below (h : Kpt p a b) {B : Nat} (hB : ∀ k, k < B → k < a.heap.size ∧ ¬ p k) : Below B a b := ⟨h.os, h.tape, h.output, h.size, fun k hk => h.block k (hB k hk).1 (hB k hk).2⟩
theorem Kpt.none (h : Kpt (fun _ => False) a b) : Below a.heap.size a b := h.to_below fun _ hk => ⟨hk, id⟩
theorem Below.drN {B : Nat} (h : Below B a b) (n : Nat) : Below B a (b.drewN n) := ⟨h.os, h.tape, h.output, h.size, h.block⟩
theorem At.kept {g : Nat} {cs : List Value} {T : TypeId} (h : At w g cs T) (hk : Kpt p w w') (hp : ¬ p g) : At w' g cs T := (hk.block g h.lt hp).trans h
theorem At.not {g g' : Nat} {cs cs' : List Value} {T T' : TypeId} (h : At w g cs T) (h' : At w g' cs' T') (hne : T ≠ T') : ¬ g = g' := h.ne h' hne
theorem At.same {g : Nat} {cs cs' : List Value} {T T' : TypeId} (h : At w g cs T) (h' : At w g cs' T') : cs = cs' ∧ T = T' := by
  have := h.symm.trans h'
  simp at this
  exact ⟨this.1, this.2⟩
end
end Go.Proofs.Ytdohfjidnbhfnaa.Mem
