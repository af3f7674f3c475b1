/- parts.Parts[int]: Join, of two parts. -/
import Derived.Test.YthomnpgpbhpojaaPo5
import Derived.Test.YthomnpgpbhpojaaPo9
namespace Go.Proofs.Ythomnpgpbhpojaa.Pt
open Go Go.RowKit Go.Proofs.Ythomnpgpbhpojaa.Mem Go.Proofs.Ythomnpgpbhpojaa.Sl Go.Proofs.Ythomnpgpbhpojaa.Lw Go.Proofs.YthomnpgpbhpojaaW.PrintWords Go.Proofs.YthomnpgpbhpojaaW.PrintLast
attribute [local go_sem ↓] Go.wp_at_zero Go.wp_at_succ
set_option linter.unusedSimpArgs false
set_option linter.unusedVariables false

theorem one_int {l : List Int} {y : Value} (h : y ∈ ints l) : y.oneCell' = true := by
  obtain ⟨x, _, rfl⟩ := List.mem_map.1 h
  rfl
theorem rdV_own {w : World} {B n c g : Nat} {l : List Int} (h : w.ownsRow B 3 1 (.slice (some ⟨g, 0, none⟩) n c) n (ints l)) : RdV w (.slice (some ⟨g, 0, none⟩) n c) n 1 (ints l) :=
  ⟨h.1, fun u hu => one_int hu, .inr ⟨_, c, rfl, fun j u hj => by
    have hlt := (List.getElem?_eq_some_iff.1 hj).1
    have : Addr.add ⟨g, 0, none⟩ j = ⟨g, j, none⟩ := by
      unfold Addr.add
      split
      · rename_i h0; rw [h0]
      · simp
    rw [this]
    exact (h.cellAt j (by rw [← h.1]; exact hlt)).trans hj⟩⟩

def tbJ1.T1 : Bool × List (List Nat × List Nat) := (true, [([], []), ([0], [0]), ([1], [1]), ([2], [2]), ([], []), ([3, 4], [3, 4]), ([], []), ([6], [6]), ([7], [7]), ([8], [8]), ([], []), ([9, 10], [9, 10]), ([5, 0, 1, 2, 3, 4, 5], [5]), ([11, 12, 0, 1, 2, 3, 4, 5, 6, 7, 8, 9, 10, 11, 12], [11])])
def tbJ1.B1 : List Nat := [0, 1, 3, 7, 0, 31, 0, 64, 192, 448, 0, 1984, 63, 8191]
theorem tbJ1.tab1 : rtab .any (opsOf Try.f36 1) = tbJ1.T1 := by kernel_rfl
theorem tbJ1.bits1 : waitsOk tbJ1.T1.2 tbJ1.B1 = true := by kernel_rfl
def tb36_4.T4 : Bool × List (List Nat × List Nat) := (true, [([], []), ([0], [0]), ([1], [1]), ([2], [2]), ([], []), ([4], [4]), ([5], [5]), ([6], [6]), ([3, 7], [3, 7])])
def tb36_4.B4 : List Nat := [0, 1, 3, 7, 0, 16, 48, 112, 255]
theorem tb36_4.tab4 : rtab .any (opsOf Try.f36 4) = tb36_4.T4 := by kernel_rfl
theorem tb36_4.bits4 : waitsOk tb36_4.T4.2 tb36_4.B4 = true := by kernel_rfl
def tb36_11.T11 : Bool × List (List Nat × List Nat) := (true, [([], []), ([], []), ([1], [1]), ([2], [2]), ([], []), ([4], [4]), ([5], [5]), ([3, 6], [3, 6]), ([0, 0, 1, 2, 3, 4, 5, 6, 7], [0]), ([8, 7, 7, 0, 1, 2, 3, 4, 5, 6, 7], [7, 8])])
def tb36_11.B11 : List Nat := [0, 0, 2, 6, 0, 16, 48, 126, 255, 511]
theorem tb36_11.tab11 : rtab .any (opsOf Try.f36 11) = tb36_11.T11 := by kernel_rfl
theorem tb36_11.bits11 : waitsOk tb36_11.T11.2 tb36_11.B11 = true := by kernel_rfl
section
variable {w w' : World} {gp gm : Nat} {cls : Int → Option Nat} {row : Nat → List Int} {val : Nat → Value} {pb : Nat → Prop}
theorem kpt_cellP {p : Nat → Prop} (hk : Kpt p w w') {b i : Nat} {x : Value} (h : w.cell? ⟨b, i, none⟩ = some x) (hb : ¬ p b) : w'.cell? ⟨b, i, none⟩ = some x :=
  (World.cell?_of_block (w := w) (hk.block b (World.block_lt_of_cell? _ _ h) hb)).trans h
theorem take_next2 {l : List Int} {i : Nat} {x : Int} (h : l[i]? = some x) : l.take (i + 1) = l.take i ++ [x] := by rw [List.take_add_one, h]; rfl
theorem ints_app (a b : List Int) : ints (a ++ b) = ints a ++ ints b := by simp [ints]
set_option maxHeartbeats 16000000 in
set_option maxRecDepth 100000 in
theorem join_calls (h : PtS w gp gm cls row val pb) (a b : Int) {ba bb : Nat} (ha : cls a = some ba) (hb : cls b = some bb) (hne : ba ≠ bb) (hl : ∀ v b, cls v = some b → (row b).length ≤ 500000) :
    Calls Try.prog 36 #[.pointer (some ⟨gp, 0, none⟩), .int .i64 a, .int .i64 b] w fun e w' => e = .returned (.bool true) ∧ Kpt pb w w' ∧
      ∃ bl bm row' val', ((bl = ba ∧ bm = bb) ∨ (bl = bb ∧ bm = ba)) ∧ PtS w' gp gm (jcls cls bl bm) row' val' (ext pb w w') := by
  obtain ⟨i1, hi1, hz1, hs1, hy1⟩ := info_parts Lw.info_int
  have hd := h.below (w' := w.drew) (Below.refl _ _).drew
  have q0 := h.hp.cell 0 rfl
  have la := hd.look a
  have lb := hd.look b
  rw [ptf_some ha, Option.getD_some] at la
  rw [ptf_some hb, Option.getD_some] at lb
  have HD := Lib.hid hd
  have HP0 := Lib.hid h.hp.lt
  clear h hd
  go_enter Try.func36, Try.ntmps36
  go_upto_region 1 with (fail)
  refine start_ (n := 14) (S := fun w' => w'.cell? ⟨gp, 0, none⟩ = some (.map (some gm)) ∧ (Instr.lookup 79 (.map (some gm)) (.int .i64 a) false).run Try.prog w' = .ok (.pointer (some ⟨ba, 0, none⟩)) w' ∧ (Instr.lookup 79 (.map (some gm)) (.int .i64 b) false).run Try.prog w' = .ok (.pointer (some ⟨bb, 0, none⟩)) w') (ds := []) (bA 14 0) (by kernel_rfl) rfl rfl ⟨q0, la, lb⟩ (fun hHeld => ?_)
  refine with_tabW tbJ1.tab1 tbJ1.bits1 (fun HT_ HW_ => ?_)
  refine pw_ 0 11 (bA 14 1) HT_.out ?_
  refine pw_ 1 12 (bA 14 3) HT_.out ?_
  refine pw_ 2 13 (bA 14 7) HT_.out ?_
  refine pw_ 4 15 (bA 14 23) HT_.out ?_
  refine pw_ 6 17 (bA 14 87) HT_.out ?_
  refine pw_ 7 18 (bA 14 215) HT_.out ?_
  refine pw_ 8 19 (bA 14 471) HT_.out ?_
  refine pw_ 10 21 (bA 14 1495) HT_.out ?_
  refine tw_ 3 14 (bA 14 1503) HT_.out HW_.out hHeld (hv := by rintro w' ⟨s0, s1, s2⟩; go_simp; with_reducible rfl) (h := ?_)
  refine tw_ 5 16 (bA 14 1535) HT_.out HW_.out hHeld (hv := by rintro w' ⟨s0, s1, s2⟩; go_simp; with_reducible rfl) (h := ?_)
  refine pw_ 12 7 (bA 14 5631) HT_.out ?_
  refine tw_ 9 20 (bA 14 6143) HT_.out HW_.out hHeld (hv := by rintro w' ⟨s0, s1, s2⟩; go_simp; with_reducible rfl) (h := ?_)
  refine tw_ 11 22 (bA 14 8191) HT_.out HW_.out hHeld (hv := by rintro w' ⟨s0, s1, s2⟩; go_simp; with_reducible rfl) (h := ?_)
  refine pw_ 13 8 (bA 14 16383) HT_.out ?_
  refine done_ (done_of HT_.out (by kernel_rfl)) ?_
  clear hHeld HT_ HW_
  refine gen_then (fun W => PtS W gp gm cls row val pb ∧ Below w.heap.size w W) ⟨HD.out, (Below.refl _ _).drew⟩ ?_
  clear q0 la lb HD
  rintro w1 ⟨hP, hb1⟩
  have heq := hP.eqp ha hb
  rw [decide_eq_false hne] at heq
  obtain ⟨a1, a2, _, _⟩ := hP.r.hb a ba ha
  obtain ⟨m1, m2, _, _⟩ := hP.r.hb b bb hb
  obtain ⟨ga, ca, hva, _, _⟩ := a2.form (hP.r.pos ha)
  obtain ⟨gb, cb, hvb, _, _⟩ := m2.form (hP.r.pos hb)
  have hla := hl a ba ha
  have hlb := hl b bb hb
  have hma := hP.r.mem a ba ha
  have hmb := hP.r.mem b bb hb
  rw [hva] at a1 a2
  rw [hvb] at m1 m2
  obtain ⟨la, hlla⟩ : ∃ l, row ba = l := ⟨_, rfl⟩
  obtain ⟨lb, hllb⟩ : ∃ l, row bb = l := ⟨_, rfl⟩
  obtain ⟨na, hna⟩ : ∃ n, la.length = n := ⟨_, rfl⟩
  obtain ⟨nb, hnb⟩ : ∃ n, lb.length = n := ⟨_, rfl⟩
  rw [hlla] at a1 a2 hla hma hva
  rw [hllb] at m1 m2 hlb hmb hvb
  rw [hna] at a1 a2 hla hva
  rw [hnb] at m1 m2 hlb hvb
  have ca0 := a1.cell 0 rfl
  have cb0 := m1.cell 0 rfl
  have hga : ga ≠ gm := by
    obtain ⟨cs, hg⟩ := Mem.own_at a2
    exact hP.hm.ne hg
  have hgb : gb ≠ gm := by
    obtain ⟨cs, hg⟩ := Mem.own_at m2
    exact hP.hm.ne hg
  have hd2 := hP.below (w' := w1.drew) (Below.refl _ _).drew
  have HQ := Lib.hid (And.intro hd2 hb1.drew)
  have HG := Lib.hid (And.intro hga (And.intro hgb (And.intro (hP.hm.ne a1) (hP.hm.ne m1))))
  have HX := Lib.hid (show w1.drew.ownsRow 0 3 1 (.slice (some ⟨ga, 0, none⟩) na ca) na (ints la) ∧ w1.drew.ownsRow 0 3 1 (.slice (some ⟨gb, 0, none⟩) nb cb) nb (ints lb) ∧ la.length = na ∧ lb.length = nb from ⟨a2, m2, hna, hnb⟩)
  have HC := Lib.hid (And.intro (And.intro ha hb) (And.intro hma hmb))
  have HV := Lib.hid (And.intro hva hvb)
  have HR := Lib.hid (And.intro hlla hllb)
  have HNE := Lib.hid (And.intro hne hne.symm)
  clear hP hb1 ha hb a1 a2 m1 m2 hva hvb hma hmb hlla hllb hna hnb hga hgb hd2 hne
  go_upto_region 4 with (fail)
  refine start_ (n := 9) (S := fun w' => w'.cell? ⟨ba, 0, none⟩ = some (.slice (some ⟨ga, 0, none⟩) na ca) ∧ w'.cell? ⟨bb, 0, none⟩ = some (.slice (some ⟨gb, 0, none⟩) nb cb)) (ds := []) (bA 9 0) (by kernel_rfl) rfl rfl ⟨ca0, cb0⟩ (fun hHeld => ?_)
  refine with_tabW tb36_4.tab4 tb36_4.bits4 (fun HT_ HW_ => ?_)
  refine pw_ 0 34 (bA 9 1) HT_.out ?_
  refine pw_ 1 35 (bA 9 3) HT_.out ?_
  refine pw_ 4 38 (bA 9 19) HT_.out ?_
  refine pw_ 5 39 (bA 9 51) HT_.out ?_
  refine tw_ 2 36 (bA 9 55) HT_.out HW_.out hHeld (hv := by rintro w' ⟨s0, s1⟩; go_simp; with_reducible rfl) (h := ?_)
  refine pw_ 3 37 (bA 9 63) HT_.out ?_
  refine tw_ 6 40 (bA 9 127) HT_.out HW_.out hHeld (hv := by rintro w' ⟨s0, s1⟩; go_simp; with_reducible rfl) (h := ?_)
  refine pw_ 7 41 (bA 9 255) HT_.out ?_
  refine pw_ 8 42 (bA 9 511) HT_.out ?_
  refine done_ (done_of HT_.out (by kernel_rfl)) ?_
  clear hHeld HT_ HW_
  obtain ⟨w2, hw2⟩ : ∃ w2, w1.drew = w2 := ⟨_, rfl⟩
  rw [hw2] at HQ HX ⊢
  have HP := Lib.hid HQ.out.1
  have HB := Lib.hid HQ.out.2
  clear heq HQ hw2
  have hc2 : w2.cell? ⟨ba, 0, none⟩ = some (.slice (some ⟨ga, 0, none⟩) na ca) := by
    have := (HP.out.r.hb a ba HC.out.1.1).1.cell 0 rfl
    rw [HV.out.1] at this
    exact this
  have hc3 : w2.cell? ⟨bb, 0, none⟩ = some (.slice (some ⟨gb, 0, none⟩) nb cb) := by
    have := (HP.out.r.hb b bb HC.out.1.2).1.cell 0 rfl
    rw [HV.out.2] at this
    exact this
  clear ca0 cb0
  by_cases hlt : na < nb
  · have e1 : (na : Int) < (nb : Int) := by omega
    go_wp2_with fail
    go_loopg [49] na (fun kq v49 w' => ∃ i : Nat, v49 = .int .i64 (i : Int) ∧ Hid (i + kq = na ∧ Kpt (fun k => k = gm) w2 w' ∧ MQ w' gm (jmap cls bb (la.take i))))
    case atStart => exact ⟨0, rfl, Lib.hid ⟨by omega, Kpt.refl _ _, by rw [List.take_zero, jmap_zero]; exact HP.out.hm⟩⟩
    case round =>
      obtain ⟨i, rfl, hI⟩ := hrel
      obtain ⟨hik, hk, hm⟩ := hI.out
      clear hI
      have hpw : At wr gp [.map (some gm)] 81 := HP.out.hp.kept hk HP.out.gmp
      by_cases hi : i < na
      · obtain ⟨k1, rfl⟩ : ∃ k1, gk = k1 + 1 := ⟨gk - 1, by omega⟩
        obtain ⟨x, hx⟩ : ∃ x, la[i]? = some x := ⟨_, List.getElem?_eq_getElem (by rw [HX.out.2.2.1]; exact hi)⟩
        have cx := kpt_cellP hk ((HX.out.1.cellAt i (by omega)).trans (ints_at _ hx)) HG.out.1
        have q0 := hpw.cell 0 rfl
        obtain ⟨o, hup, hm2⟩ := upd_map wr gm hm x (.pointer (some ⟨bb, 0, none⟩))
        rw [jmap_step, ← take_next2 hx] at hm2
        have HN := Lib.hid (And.intro (kpt_put hk (fun _ => rfl) o) hm2)
        have i0 : (0 : Int) ≤ (i : Int) := by omega
        have i1' : (i : Int) < (na : Int) := by omega
        have i2 : (na : Int) ≤ 500000 := by omega
        clear hk hm hm2 hx hpw hi
        go_wp2
        go_roundg k1
        case measure => omega
        case rel => exact ⟨i + 1, by go_num, Lib.hid ⟨by omega, HN.out⟩⟩
      · obtain rfl : na = i := by omega
        rw [List.take_of_length_le (Nat.le_of_eq HX.out.2.2.1), jmap_full cls bb ba la (HC.out.2.1)] at hm
        have hr := HP.out.r.kept hk (map_no HP.out.hm)
        obtain ⟨a1, a2, a3, a4⟩ := hr.hb b bb HC.out.1.2
        obtain ⟨m1, m2, _, _⟩ := hr.hb a ba HC.out.1.1
        rw [HV.out.2] at a1 a2 a4
        rw [HV.out.1] at m1 m2
        rw [HR.out.2, HX.out.2.2.2] at a2
        rw [HR.out.1, HX.out.2.2.1] at m2
        have hag := a1
        have HOL := Lib.hid a2
        have HAL := Lib.hid a1
        have HRM := Lib.hid (rdV_own (show wr.drew.ownsRow 0 3 1 (.slice (some ⟨ga, 0, none⟩) na ca) na (ints la) from m2))
        have cl0 := a1.cell 0 rfl
        have cm0 := m1.cell 0 rfl
        have H1 := Lib.hid (And.intro hk (And.intro hm (And.intro hr (And.intro hpw (And.intro a3 (a4 gb rfl))))))
        clear hk hm hr hpw a1 a2 a3 a4 m1 m2 hag hi hik
        go_upto_region 11 with (fail)
        refine start_ (n := 10) (S := fun w' => w'.cell? ⟨bb, 0, none⟩ = some (.slice (some ⟨gb, 0, none⟩) nb cb) ∧ w'.cell? ⟨ba, 0, none⟩ = some (.slice (some ⟨ga, 0, none⟩) na ca)) (ds := [7, 9]) (bA 10 0) (by kernel_rfl) rfl rfl ⟨cl0, cm0⟩ (fun hHeld => ?_)
        refine with_tabW tb36_11.tab11 tb36_11.bits11 (fun HT_ HW_ => ?_)
        refine pw_ 0 60 (bA 10 1) HT_.out ?_
        refine pw_ 1 61 (bA 10 3) HT_.out ?_
        refine pw_ 2 62 (bA 10 7) HT_.out ?_
        refine pw_ 4 64 (bA 10 23) HT_.out ?_
        refine pw_ 5 65 (bA 10 55) HT_.out ?_
        refine tw_ 3 63 (bA 10 63) HT_.out HW_.out hHeld (hv := by rintro w' ⟨s0, s1⟩; go_simp; with_reducible rfl) (h := ?_)
        refine tw_ 6 66 (bA 10 127) HT_.out HW_.out hHeld (hv := by rintro w' ⟨s0, s1⟩; go_simp; with_reducible rfl) (h := ?_)
        refine last_ (i := 7) (N := some 67) (bA 10 255) rfl rfl (one_of HT_.out (by kernel_rfl)) (by decide) (fun K hK => ?_)
        refine step_append_any rfl (.tmp 63) (.tmp 66) 25 rfl 0 3 i1 (.int .i64 0) 1 8 Try.underlying25 hi1 hz1 hs1 hy1 rfl (by omega) _ _ _ rfl (HOL.out.drew) _ rfl na (ints la) HRM.out (by unfold maxLen; omega) (by omega) (Nat.zero_le _) ?_
        intro v6 w6 ho hg hn
        have hat6 := HAL.out.drew.grown hg (own_off HOL.out HAL.out (by decide))
        have hs7 := hat6.cell 0 rfl
        have hf7 := hat6.free 0
        obtain ⟨A6, c6, rfl⟩ := own_slice ho
        have H6 := Lib.hid (And.intro ho (And.intro (show wr.grownBy w6 (some gb) from ⟨hg.os, hg.tape, hg.output, hg.size, hg.block⟩) (And.intro (show (Value.slice A6 (nb + na) c6).ownBlock = some gb ∨ (Value.slice A6 (nb + na) c6).ownBlock = some wr.heap.size from hn) hat6)))
        clear ho hg hn hat6; refine hK.out _ _ ?_; clear hK K
        refine norm_ (a' := ?_) ?_ ?_
        rotate_left
        · show Act.put _ (some 67) _ = _
          simp only [Act.put, pA, pB, pC, pD, pE]; rfl
        refine pw_ 8 68 (bA 10 511) HT_.out ?_
        refine last_ (i := 9) (N := none) (bA 10 1023) rfl rfl (one_of HT_.out (by kernel_rfl)) (by decide) (fun K hK => ?_)
        refine skip_ (w1 := ?_) (by rfl) rfl ?_ ?_
        rotate_left; · go_simp; rfl
        refine hK.out _ _ ?_; clear hK K
        refine done_ (done_of HT_.out (by kernel_rfl)) ?_
        clear hHeld HT_ HW_
        refine gen_then (fun W => Kpt pb w W ∧ ∃ row' val', PtS W gp gm (jcls cls bb ba) row' val' (ext pb w W)) ?_ ?_
        · obtain ⟨hk, hm, hr, hpw, p1, p2⟩ := H1.out
          obtain ⟨ho, hg, hn, hat6⟩ := H6.out
          have hkp : Kpt (fun k => k = bb ∨ (val bb).ownBlock = some k) wr (w6.setCell ⟨bb, 0, none⟩ (.slice A6 (nb + na) c6)) :=
            (((Kpt.refl _ wr).grown hg (fun k e _ => .inr (by rw [HV.out.2]; exact e))).set (fun _ => .inl rfl) _)
          have hpp : ∀ k, (k = bb ∨ (val bb).ownBlock = some k) → pb k := by
            rintro k (rfl | e)
            · exact p1
            · rw [HV.out.2] at e; cases e; exact p2
          have hat7 := hat6.put (cs' := [.slice A6 (nb + na) c6]) (i := 0) (u := .slice A6 (nb + na) c6) rfl
          have ho7 := ownsRow_setCell_other ho (a := ⟨bb, 0, none⟩) (fun e => own_off ho hat6 (by decide) e.symm) (.slice A6 (nb + na) c6)
          rw [← HX.out.2.2.2, ← HX.out.2.2.1] at ho7 hat7
          have hj := hr.join (w' := w6.setCell ⟨bb, 0, none⟩ (.slice A6 (nb + na) c6)) HC.out.1.2 HC.out.1.1 HNE.out.2 hkp (fun k hk => hk) (v' := .slice A6 (lb.length + la.length) c6) (by rw [HX.out.2.2.2, HX.out.2.2.1] at hat7 ⊢; exact hat7) (by
            rw [HR.out.2, HR.out.1, List.length_append, ints_app]
            rw [HX.out.2.2.2, HX.out.2.2.1] at ho7 ⊢
            exact ho7) (by
            rw [HV.out.2, HX.out.2.2.2, HX.out.2.2.1]
            rcases hn with e | e
            · exact .inl e
            · exact .inr fun k hk => by
                have := e.symm.trans (show (Value.slice A6 (nb + na) c6).ownBlock = some k from hk)
                cases this
                exact Nat.le_refl _)
          have hkw : Kpt pb w2 (w6.setCell ⟨bb, 0, none⟩ (.slice A6 (nb + na) c6)) := (hk.mono (p' := pb) (fun k _ e => e ▸ HP.out.pm)).trans (hkp.mono (fun k _ e => hpp k e))
          have hkw0 : Kpt pb w (w6.setCell ⟨bb, 0, none⟩ (.slice A6 (nb + na) c6)) := (Kpt.of_below (p := pb) HB.out).trans hkw
          have hs1 := HB.out.size
          have hs2 := hk.size
          have hs3 := hkp.size
          refine ⟨hkw0, _, _, ⟨hpw.kept hkp (fun e => HP.out.np (hpp gp e)), hm.move (hkp.block gm hm.lt ?_), .inl HP.out.pm, ?_, hj.mono (fun k hk => ?_) (fun k hk => ?_)⟩⟩
          · rintro (e | e)
            · exact HG.out.2.2.2 e.symm
            · rw [HV.out.2] at e; cases e; exact HG.out.2.1 rfl
          · rintro (e | ⟨e, _⟩)
            · exact HP.out.np e
            · have := HP0.out
              omega
          · rcases hk with hk | hk
            · exact .inl hk
            · exact .inr (by omega)
          · rcases hk with hk | hk
            · have := hr.lt k hk; omega
            · exact hk.2
        clear cl0 cm0 HOL HAL HRM H1 H6 hs7 hf7
        intro W hW
        have HW := Lib.hid hW
        clear hW
        go_wp2
        go_ret
        obtain ⟨k1, row', val', hS⟩ := HW.out
        exact ⟨rfl, k1, bb, ba, row', val', .inr ⟨rfl, rfl⟩, hS⟩
  · have e1 : (nb : Int) ≤ (na : Int) := by omega
    have e2 : nb ≤ na := by omega
    go_wp2_with fail
    go_loopg [49] nb (fun kq v49 w' => ∃ i : Nat, v49 = .int .i64 (i : Int) ∧ Hid (i + kq = nb ∧ Kpt (fun k => k = gm) w2 w' ∧ MQ w' gm (jmap cls ba (lb.take i))))
    case atStart => exact ⟨0, rfl, Lib.hid ⟨by omega, Kpt.refl _ _, by rw [List.take_zero, jmap_zero]; exact HP.out.hm⟩⟩
    case round =>
      obtain ⟨i, rfl, hI⟩ := hrel
      obtain ⟨hik, hk, hm⟩ := hI.out
      clear hI
      have hpw : At wr gp [.map (some gm)] 81 := HP.out.hp.kept hk HP.out.gmp
      by_cases hi : i < nb
      · obtain ⟨k1, rfl⟩ : ∃ k1, gk = k1 + 1 := ⟨gk - 1, by omega⟩
        obtain ⟨x, hx⟩ : ∃ x, lb[i]? = some x := ⟨_, List.getElem?_eq_getElem (by rw [HX.out.2.2.2]; exact hi)⟩
        have cx := kpt_cellP hk ((HX.out.2.1.cellAt i (by omega)).trans (ints_at _ hx)) HG.out.2.1
        have q0 := hpw.cell 0 rfl
        obtain ⟨o, hup, hm2⟩ := upd_map wr gm hm x (.pointer (some ⟨ba, 0, none⟩))
        rw [jmap_step, ← take_next2 hx] at hm2
        have HN := Lib.hid (And.intro (kpt_put hk (fun _ => rfl) o) hm2)
        have i0 : (0 : Int) ≤ (i : Int) := by omega
        have i1' : (i : Int) < (nb : Int) := by omega
        have i2 : (nb : Int) ≤ 500000 := by omega
        clear hk hm hm2 hx hpw hi
        go_wp2
        go_roundg k1
        case measure => omega
        case rel => exact ⟨i + 1, by go_num, Lib.hid ⟨by omega, HN.out⟩⟩
      · obtain rfl : nb = i := by omega
        rw [List.take_of_length_le (Nat.le_of_eq HX.out.2.2.2), jmap_full cls ba bb lb (HC.out.2.2)] at hm
        have hr := HP.out.r.kept hk (map_no HP.out.hm)
        obtain ⟨a1, a2, a3, a4⟩ := hr.hb a ba HC.out.1.1
        obtain ⟨m1, m2, _, _⟩ := hr.hb b bb HC.out.1.2
        rw [HV.out.1] at a1 a2 a4
        rw [HV.out.2] at m1 m2
        rw [HR.out.1, HX.out.2.2.1] at a2
        rw [HR.out.2, HX.out.2.2.2] at m2
        have hag := a1
        have HOL := Lib.hid a2
        have HAL := Lib.hid a1
        have HRM := Lib.hid (rdV_own (show wr.drew.ownsRow 0 3 1 (.slice (some ⟨gb, 0, none⟩) nb cb) nb (ints lb) from m2))
        have cl0 := a1.cell 0 rfl
        have cm0 := m1.cell 0 rfl
        have H1 := Lib.hid (And.intro hk (And.intro hm (And.intro hr (And.intro hpw (And.intro a3 (a4 ga rfl))))))
        clear hk hm hr hpw a1 a2 a3 a4 m1 m2 hag hi hik
        go_upto_region 11 with (fail)
        refine start_ (n := 10) (S := fun w' => w'.cell? ⟨ba, 0, none⟩ = some (.slice (some ⟨ga, 0, none⟩) na ca) ∧ w'.cell? ⟨bb, 0, none⟩ = some (.slice (some ⟨gb, 0, none⟩) nb cb)) (ds := [7, 9]) (bA 10 0) (by kernel_rfl) rfl rfl ⟨cl0, cm0⟩ (fun hHeld => ?_)
        refine with_tabW tb36_11.tab11 tb36_11.bits11 (fun HT_ HW_ => ?_)
        refine pw_ 0 60 (bA 10 1) HT_.out ?_
        refine pw_ 1 61 (bA 10 3) HT_.out ?_
        refine pw_ 2 62 (bA 10 7) HT_.out ?_
        refine pw_ 4 64 (bA 10 23) HT_.out ?_
        refine pw_ 5 65 (bA 10 55) HT_.out ?_
        refine tw_ 3 63 (bA 10 63) HT_.out HW_.out hHeld (hv := by rintro w' ⟨s0, s1⟩; go_simp; with_reducible rfl) (h := ?_)
        refine tw_ 6 66 (bA 10 127) HT_.out HW_.out hHeld (hv := by rintro w' ⟨s0, s1⟩; go_simp; with_reducible rfl) (h := ?_)
        refine last_ (i := 7) (N := some 67) (bA 10 255) rfl rfl (one_of HT_.out (by kernel_rfl)) (by decide) (fun K hK => ?_)
        refine step_append_any rfl (.tmp 63) (.tmp 66) 25 rfl 0 3 i1 (.int .i64 0) 1 8 Try.underlying25 hi1 hz1 hs1 hy1 rfl (by omega) _ _ _ rfl (HOL.out.drew) _ rfl nb (ints lb) HRM.out (by unfold maxLen; omega) (by omega) (Nat.zero_le _) ?_
        intro v6 w6 ho hg hn
        have hat6 := HAL.out.drew.grown hg (own_off HOL.out HAL.out (by decide))
        have hs7 := hat6.cell 0 rfl
        have hf7 := hat6.free 0
        obtain ⟨A6, c6, rfl⟩ := own_slice ho
        have H6 := Lib.hid (And.intro ho (And.intro (show wr.grownBy w6 (some ga) from ⟨hg.os, hg.tape, hg.output, hg.size, hg.block⟩) (And.intro (show (Value.slice A6 (na + nb) c6).ownBlock = some ga ∨ (Value.slice A6 (na + nb) c6).ownBlock = some wr.heap.size from hn) hat6)))
        clear ho hg hn hat6; refine hK.out _ _ ?_; clear hK K
        refine norm_ (a' := ?_) ?_ ?_
        rotate_left
        · show Act.put _ (some 67) _ = _
          simp only [Act.put, pA, pB, pC, pD, pE]; rfl
        refine pw_ 8 68 (bA 10 511) HT_.out ?_
        refine last_ (i := 9) (N := none) (bA 10 1023) rfl rfl (one_of HT_.out (by kernel_rfl)) (by decide) (fun K hK => ?_)
        refine skip_ (w1 := ?_) (by rfl) rfl ?_ ?_
        rotate_left; · go_simp; rfl
        refine hK.out _ _ ?_; clear hK K
        refine done_ (done_of HT_.out (by kernel_rfl)) ?_
        clear hHeld HT_ HW_
        refine gen_then (fun W => Kpt pb w W ∧ ∃ row' val', PtS W gp gm (jcls cls ba bb) row' val' (ext pb w W)) ?_ ?_
        · obtain ⟨hk, hm, hr, hpw, p1, p2⟩ := H1.out
          obtain ⟨ho, hg, hn, hat6⟩ := H6.out
          have hkp : Kpt (fun k => k = ba ∨ (val ba).ownBlock = some k) wr (w6.setCell ⟨ba, 0, none⟩ (.slice A6 (na + nb) c6)) :=
            (((Kpt.refl _ wr).grown hg (fun k e _ => .inr (by rw [HV.out.1]; exact e))).set (fun _ => .inl rfl) _)
          have hpp : ∀ k, (k = ba ∨ (val ba).ownBlock = some k) → pb k := by
            rintro k (rfl | e)
            · exact p1
            · rw [HV.out.1] at e; cases e; exact p2
          have hat7 := hat6.put (cs' := [.slice A6 (na + nb) c6]) (i := 0) (u := .slice A6 (na + nb) c6) rfl
          have ho7 := ownsRow_setCell_other ho (a := ⟨ba, 0, none⟩) (fun e => own_off ho hat6 (by decide) e.symm) (.slice A6 (na + nb) c6)
          rw [← HX.out.2.2.1, ← HX.out.2.2.2] at ho7 hat7
          have hj := hr.join (w' := w6.setCell ⟨ba, 0, none⟩ (.slice A6 (na + nb) c6)) HC.out.1.1 HC.out.1.2 HNE.out.1 hkp (fun k hk => hk) (v' := .slice A6 (la.length + lb.length) c6) (by rw [HX.out.2.2.1, HX.out.2.2.2] at hat7 ⊢; exact hat7) (by
            rw [HR.out.1, HR.out.2, List.length_append, ints_app]
            rw [HX.out.2.2.1, HX.out.2.2.2] at ho7 ⊢
            exact ho7) (by
            rw [HV.out.1, HX.out.2.2.1, HX.out.2.2.2]
            rcases hn with e | e
            · exact .inl e
            · exact .inr fun k hk => by
                have := e.symm.trans (show (Value.slice A6 (na + nb) c6).ownBlock = some k from hk)
                cases this
                exact Nat.le_refl _)
          have hkw : Kpt pb w2 (w6.setCell ⟨ba, 0, none⟩ (.slice A6 (na + nb) c6)) := (hk.mono (p' := pb) (fun k _ e => e ▸ HP.out.pm)).trans (hkp.mono (fun k _ e => hpp k e))
          have hkw0 : Kpt pb w (w6.setCell ⟨ba, 0, none⟩ (.slice A6 (na + nb) c6)) := (Kpt.of_below (p := pb) HB.out).trans hkw
          have hs1 := HB.out.size
          have hs2 := hk.size
          have hs3 := hkp.size
          refine ⟨hkw0, _, _, ⟨hpw.kept hkp (fun e => HP.out.np (hpp gp e)), hm.move (hkp.block gm hm.lt ?_), .inl HP.out.pm, ?_, hj.mono (fun k hk => ?_) (fun k hk => ?_)⟩⟩
          · rintro (e | e)
            · exact HG.out.2.2.1 e.symm
            · rw [HV.out.1] at e; cases e; exact HG.out.1 rfl
          · rintro (e | ⟨e, _⟩)
            · exact HP.out.np e
            · have := HP0.out
              omega
          · rcases hk with hk | hk
            · exact .inl hk
            · exact .inr (by omega)
          · rcases hk with hk | hk
            · have := hr.lt k hk; omega
            · exact hk.2
        clear cl0 cm0 HOL HAL HRM H1 H6 hs7 hf7
        intro W hW
        have HW := Lib.hid hW
        clear hW
        go_wp2
        go_ret
        obtain ⟨k1, row', val', hS⟩ := HW.out
        exact ⟨rfl, k1, ba, bb, row', val', .inl ⟨rfl, rfl⟩, hS⟩
end
end Go.Proofs.Ythomnpgpbhpojaa.Pt
