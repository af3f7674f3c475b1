/- SccAnswers, walked. -/
import Derived.Test.YthlmffjafeodlaaAnB
namespace Go.Proofs.Ythlmffjafeodlaa.Lw
open Go Go.RowKit Go.Proofs.Ythlmffjafeodlaa.Mem Go.Proofs.Ythlmffjafeodlaa.Sl Go.Proofs.Ythlmffjafeodlaa.Scc Go.Proofs.Ythlmffjafeodlaa.Tj Go.Proofs.YthlmffjafeodlaaW.PrintWords Go.Proofs.YthlmffjafeodlaaW.PrintLast
attribute [local go_sem ↓] Go.wp_at_zero Go.wp_at_succ
set_option linter.unusedSimpArgs false
set_option linter.unusedVariables false

theorem acy_rdA (w : World) (Av Aa : Option Addr) (cv ca : Nat) (l : List Int) (arcs : List (Int × Int)) (hv : RdI w Av l) (ha : RdA w Aa arcs) (hn : l.length ≤ 999999) (hm : arcs.length ≤ 1000000)
    (k code : Nat) (b : Bool) (hR : acyS l arcs (sorted l) k = some (code, b)) :
    Calls Try.prog 15 #[.slice Av l.length cv, .slice Aa arcs.length ca] w fun e w' => e = .returned (.tuple #[.bool b, .int .i64 (code : Int)]) ∧ Below w.heap.size w w' := by
  refine (acy_calls w Av Aa cv ca _ l arcs (code, b) hv ha (by omega) hm hR).mono ?_
  rintro e w' ⟨hb, he⟩
  exact ⟨he, hb⟩

/-- What the three functions answer, and what the references say there. -/
theorem answers_plain (L : List Int) (R : List (Int × Int)) (hL : L.length ≤ 60) (hR : R.length ≤ 240) : ∃ ls ts b, ofS L R (sorted L) 1000 = some (codeV (sorted L) R, ls) ∧ orderS L R (sorted L) 1000 = some (codeV (sorted L) R, ts) ∧ acyS L R (sorted L) 1000 = some (codeV (sorted L) R, b) ∧
    (codeV (sorted L) R ≠ 0 → ls = [] ∧ ts = [] ∧ b = false) ∧ ls.length ≤ 60 ∧ (∀ r ∈ ls, r.length ≤ 60) ∧ ts.length ≤ 60 ∧
    (codeV (sorted L) R = 0 → (sorted L).Pairwise (· < ·) ∧ good (sorted L) R = true ∧ ∃ comp m F, CompOf (sorted L).length (PE (sorted L) R) comp m ∧ IsOrder (Arc (sorted L).length (PE (sorted L) R) comp) m F ∧ ls = ofL comp (sorted L) m ∧ ts = F.map (headZ comp (sorted L)) ∧ b = acyB R m (sorted L).length ∧ ls.length = m ∧ ts.length = m) := by
  have hl := sorted_length L
  have hs := sorted_rising L
  obtain ⟨ls, h1, h2, h3⟩ := ofS_ends (l := L) (arcs := R) (k := 1000) hl hs (by omega) (by omega)
  obtain ⟨ts, h4, h5, h6⟩ := orderS_ends (l := L) (arcs := R) (k := 1000) hl hs (by omega) (by omega) (by omega)
  obtain ⟨b, h7, h8, h9⟩ := acyS_ends (l := L) (arcs := R) (k := 1000) hl hs (by omega) (by omega)
  have hsm := of_small h2 h3
  refine ⟨ls, ts, b, h1, h4, h7, fun h => ⟨h2 h, h5 h, h8 h⟩, Nat.le_trans hsm.1 hL, fun r hr => Nat.le_trans (hsm.2 r hr) hL, Nat.le_trans (order_small h5 h6) hL, fun hc => ?_⟩
  obtain ⟨hd, hg⟩ := codeV_zero hc
  obtain ⟨comp, m, hco, rfl⟩ := h3 hc
  obtain ⟨comp', m', F, hco', hF, rfl⟩ := h6 hc
  obtain ⟨comp2, m2, hco2, rfl⟩ := h9 hc
  obtain ⟨rfl, rfl⟩ := hco'.unique hco
  obtain ⟨rfl, rfl⟩ := hco2.unique hco
  rw [← hl] at hco hF
  exact ⟨lt_of_nodup hs hd, hg, _, _, F, hco, hF, rfl, rfl, by rw [hl], by simp [ofL], by rw [List.length_map]; exact hF.2.2⟩

set_option maxHeartbeats 8000000 in
set_option maxRecDepth 100000 in
theorem answers_calls (w : World) (a1 a2 : Value) (l : List Int) (arcs : List (Int × Int)) (h1 : ArgV w a1 l.length 1 (ints l)) (h2 : ArgV w a2 arcs.length 2 (arcs2 arcs)) :
    Calls Try.prog 5 #[a1, a2] w fun e w' => e = .returned (.bool true) ∧ Below w.heap.size w w' := by
  have HH := Lib.hid (And.intro h1 h2)
  clear h1 h2
  go_enter Try.func5, Try.ntmps5
  go_wp2_with fail
  refine (awake_calls _).mono ?_
  rintro e w1 ⟨rfl, hb1⟩
  have HB := Lib.hid hb1
  clear hb1
  go_wp2_with fail
  refine (cut2_calls w1 a1 a2 l arcs (HH.out.1.below HB.out) (HH.out.2.below HB.out)).mono ?_
  clear HH
  rintro e w2 ⟨v1, v2, rfl, hT⟩
  obtain ⟨L, hL⟩ : ∃ L, l.take 60 = L := ⟨_, rfl⟩
  obtain ⟨R, hR⟩ : ∃ R, arcs.take 240 = R := ⟨_, rfl⟩
  have hLn : L.length ≤ 60 := by rw [← hL, List.length_take]; omega
  have hRn : R.length ≤ 240 := by rw [← hR, List.length_take]; omega
  rw [hL, hR] at hT
  obtain ⟨A1, c1, rfl⟩ := own_slice hT.r1
  obtain ⟨A2, c2, rfl⟩ := own_slice hT.r2
  have HV := Lib.hid (RdI.of_own hT.r1).1
  have HA := Lib.hid (RdA.of_own hT.r2).1
  have HB2 := Lib.hid (HB.out.trans (hT.b.mono HB.out.size))
  clear hT hL hR l arcs HB
  obtain ⟨ls, ts, b, p1, p2, p3, z, n1, n2, n3, h0⟩ := answers_plain L R hLn hRn
  have hER := fun (W : World) (x : RdI W A1 L) (y : RdA W A2 R) => error_calls W A1 A2 c1 c2 L R x y (by omega) (by omega)
  obtain ⟨code, hcode⟩ : ∃ code, codeV (sorted L) R = code := ⟨_, rfl⟩
  rw [hcode] at p1 p2 p3 z h0 hER
  have P1 := Lib.hid p1
  have P2 := Lib.hid p2
  have P3 := Lib.hid p3
  have Z := Lib.hid z
  have N1 := Lib.hid n1
  have N2 := Lib.hid n2
  have N3 := Lib.hid n3
  have H0 := Lib.hid h0
  have HER := Lib.hid hER
  clear p1 p2 p3 z n1 n2 n3 h0 hER hcode
  go_wp2_with fail
  refine (of_rd w2 A1 A2 c1 c2 L R HV.out HA.out (by omega) (by omega) 1000 code ls P1.out (fun h => (Z.out h).1)).mono ?_
  rintro e w3 ⟨B1, d1, rfl, hr1, hb1⟩
  have HR1 := Lib.hid hr1
  have HB3 := Lib.hid hb1
  clear hr1 hb1
  go_wp2_with fail
  refine (order_rd w3 A1 A2 c1 c2 L R (HV.out.below HB3.out) (HA.out.below HB3.out) (by omega) (by omega) 1000 code ts P2.out (fun h => (Z.out h).2.1)).mono ?_
  rintro e w4 ⟨B2, d2, rfl, hr2, hb2⟩
  have HR2 := Lib.hid hr2
  have HR12 := Lib.hid (HR1.out.below hb2)
  have HB4 := Lib.hid (HB3.out.trans (hb2.mono HB3.out.size))
  clear hr2 hb2 HR1 HB3
  go_wp2_with fail
  refine (acy_rdA w4 A1 A2 c1 c2 L R (HV.out.below HB4.out) (HA.out.below HB4.out) (by omega) (by omega) 1000 code b P3.out).mono ?_
  rintro e w5 ⟨rfl, hb3⟩
  have HR13 := Lib.hid (HR12.out.below hb3)
  have HR23 := Lib.hid (RdI.below HR2.out hb3)
  have HB5 := Lib.hid (HB4.out.trans (hb3.mono HB4.out.size))
  clear hb3 HR12 HR2 HB4
  go_wp2_with fail
  refine (HER.out w5 (RdI.below HV.out HB5.out) (RdA.below HA.out HB5.out)).mono ?_
  rintro e w6 ⟨rfl, hb4⟩
  have HR14 := Lib.hid (HR13.out.below hb4)
  have HR24 := Lib.hid (RdI.below HR23.out hb4)
  have hb26 := HB5.out.trans (hb4.mono HB5.out.size)
  have HV6 := Lib.hid (HV.out.below hb26)
  have HA6 := Lib.hid (HA.out.below hb26)
  have HB6 := Lib.hid (HB2.out.trans (hb26.mono HB2.out.size))
  clear hb4 hb26 HR13 HR23 HV HA HB2 HB5 HER P1 P2 P3
  have e2 : ((code : Int) != (code : Int)) = false := by rw [bne, beq_self_eq_true]; rfl
  by_cases hc0 : code = 0
  · subst hc0
    obtain ⟨hs, hg, comp, m, F, hco, hF, hls, hts, hbb, hlm, htm⟩ := H0.out rfl
    have hsl := sorted_length L
    have HG := Lib.hid (graph_calls w6 A1 A2 c1 c2 L R HV6.out HA6.out (by omega) (by omega))
    have hOF := fun (W : World) (A AE : Option Addr) (cg ce : Nat) (x : RdI W A (sorted L)) (y : RdE W AE R) => ofR_calls W A AE cg ce m (sorted L) R comp x y hs hg hco (by omega) (by omega)
    have hOR := fun (W : World) (A AE : Option Addr) (cg ce : Nat) (x : RdI W A (sorted L)) (y : RdE W AE R) => orderR_calls W A AE cg ce m (sorted L) R comp F x y hs hg hco hF (by omega) (by omega)
    have hAC := fun (W : World) (A AE : Option Addr) (cg ce : Nat) (x : RdI W A (sorted L)) (y : RdE W AE R) => acyR_calls W A AE cg ce m (sorted L) R comp x y hs hg hco (by omega) (by omega)
    rw [← hls] at hOF
    rw [← hts] at hOR
    rw [← hbb] at hAC
    unfold gV at hOF hOR hAC
    rw [hsl] at hOF hOR hAC
    have hSL := fun (W : World) (A B : Option Addr) (ca cb : Nat) (x : RdL W A ls) (y : RdL W B ls) => sameLists_calls W A B ca cb ls ls x y (by have := N1.out; omega) (fun r hr => Nat.le_trans (N2.out r hr) (by omega))
    have hSI := fun (W : World) (A B : Option Addr) (ca cb : Nat) (x : RdI W A ts) (y : RdI W B ts) => sameInts_calls W A B ca cb ts ts x y (by have := N3.out; omega)
    rw [hlm] at hSL ⊢
    rw [htm] at hSI ⊢
    rw [decide_eq_true (rfl : ls = ls)] at hSL
    rw [decide_eq_true (rfl : ts = ts)] at hSI
    have HOF := Lib.hid hOF
    have HOR := Lib.hid hOR
    have HAC := Lib.hid hAC
    have HSL := Lib.hid hSL
    have HSI := Lib.hid hSI
    clear hs hg hco hF hls hts hbb hlm htm hsl hOF hOR hAC hSL hSI H0 Z N1 N2 N3
    go_wp2_with fail
    refine HG.out.mono ?_
    clear HG
    rintro e w7 ⟨A5, cg, AE, ce, rfl, hri, hre, hb7⟩
    unfold gV
    have HRI := Lib.hid hri
    have HRE := Lib.hid hre
    have HR15 := Lib.hid (HR14.out.below hb7)
    have HR25 := Lib.hid (RdI.below HR24.out hb7)
    have HB7 := Lib.hid (HB6.out.trans (hb7.mono HB6.out.size))
    clear hri hre hb7 HR14 HR24 HB6 HV6 HA6
    go_wp2_with fail
    have hal := (Below.refl w7.heap.size w7).alloc (Nat.le_refl _) (.cells #[.slice A5 L.length cg, .slice AE R.length ce, .int .i64 0, .int .i64 0] 44)
    have hat : At (w7.alloc (.cells #[.slice A5 L.length cg, .slice AE R.length ce, .int .i64 0, .int .i64 0] 44)) w7.heap.size [.slice A5 L.length cg, .slice AE R.length ce, .int .i64 0, .int .i64 0] 44 := At.made rfl rfl
    refine (HOF.out _ A5 AE cg ce (RdI.below HRI.out hal) (HRE.out.below hal)).mono ?_
    rintro e w8 ⟨A9, c9, rfl, hrl, hb8⟩
    have hb78 := hal.trans (hb8.mono hal.size)
    obtain ⟨g, hg⟩ : ∃ g, w7.heap.size = g := ⟨_, rfl⟩
    have hat8 := hat.below hb8 hat.lt
    rw [hg] at hat8 ⊢
    have HAT8 := Lib.hid hat8
    have HB8 := Lib.hid hb78
    have HRL := Lib.hid hrl
    clear hal hat hrl hb8 hb78 hat8 hg HOF
    go_wp2_with fail
    refine (HSL.out w8 B1 A9 d1 c9 (HR15.out.below HB8.out) HRL.out).mono ?_
    rintro e w9 ⟨rfl, p1, rfl⟩
    have hb89 : Below w8.heap.size w8 (w8.drewN p1) := ⟨rfl, rfl, rfl, Nat.le_refl _, fun _ _ => rfl⟩
    have HB9 := Lib.hid (HB8.out.trans (hb89.mono HB8.out.size))
    have HAT9 := Lib.hid (HAT8.out.below hb89 HAT8.out.lt)
    obtain ⟨w9, hw9⟩ : ∃ w9, w8.drewN p1 = w9 := ⟨_, rfl⟩
    rw [hw9] at HB9 HAT9 ⊢
    clear hb89 hw9 HRL HAT8 HB8 HSL
    have q0 : (w9).cell? ⟨g, 0, none⟩ = some (.slice A5 L.length cg) := HAT9.out.cell 0 rfl
    have q1 : (w9).cell? ⟨g, 1, none⟩ = some (.slice AE R.length ce) := HAT9.out.cell 1 rfl
    have q2 : (w9).cell? ⟨g, 2, none⟩ = some (.int .i64 0) := HAT9.out.cell 2 rfl
    have q3 : (w9).cell? ⟨g, 3, none⟩ = some (.int .i64 0) := HAT9.out.cell 3 rfl
    go_wp2_with fail
    clear q0 q1 q2 q3
    refine (HOR.out w9 A5 AE cg ce (RdI.below HRI.out HB9.out) (HRE.out.below HB9.out)).mono ?_
    rintro e w10 ⟨A10, c10, rfl, hri10, hb10⟩
    have HR10 := Lib.hid hri10
    have HB10 := Lib.hid (HB9.out.trans (hb10.mono HB9.out.size))
    have HAT10 := Lib.hid (HAT9.out.below hb10 HAT9.out.lt)
    clear hri10 hb10 HAT9 HB9 HOR
    go_wp2_with fail
    refine (HSI.out w10 B2 A10 d2 c10 (RdI.below HR25.out HB10.out) HR10.out).mono ?_
    rintro e w11 ⟨rfl, p2, rfl⟩
    have hb1011 : Below w10.heap.size w10 (w10.drewN p2) := ⟨rfl, rfl, rfl, Nat.le_refl _, fun _ _ => rfl⟩
    have HB11 := Lib.hid (HB10.out.trans (hb1011.mono HB10.out.size))
    have HAT11 := Lib.hid (HAT10.out.below hb1011 HAT10.out.lt)
    obtain ⟨w11, hw11⟩ : ∃ w11, w10.drewN p2 = w11 := ⟨_, rfl⟩
    rw [hw11] at HB11 HAT11 ⊢
    clear hb1011 hw11 HR10 HAT10 HB10 HSI
    have q0 : (w11).cell? ⟨g, 0, none⟩ = some (.slice A5 L.length cg) := HAT11.out.cell 0 rfl
    have q1 : (w11).cell? ⟨g, 1, none⟩ = some (.slice AE R.length ce) := HAT11.out.cell 1 rfl
    have q2 : (w11).cell? ⟨g, 2, none⟩ = some (.int .i64 0) := HAT11.out.cell 2 rfl
    have q3 : (w11).cell? ⟨g, 3, none⟩ = some (.int .i64 0) := HAT11.out.cell 3 rfl
    go_wp2_with fail
    clear q0 q1 q2 q3
    refine (HAC.out w11 A5 AE cg ce (RdI.below HRI.out HB11.out) (HRE.out.below HB11.out)).mono ?_
    rintro e w12 ⟨rfl, hb12⟩
    have HB12 := Lib.hid (HB7.out.trans ((HB11.out.trans (hb12.mono HB11.out.size)).mono HB7.out.size))
    clear hb12 HAT11 HB11 HAC
    go_wp2
    go_ret
    exact ⟨by simp, HB12.out⟩
  · obtain ⟨hls, hts, hb⟩ := Z.out hc0
    subst hls hts hb
    have e0 : ((code : Int) == 0) = false := beq_eq_false_iff_ne.2 (by omega)
    have e1 : ((code : Int) != 0) = true := by rw [bne, e0]; rfl
    clear H0 Z N1 N2 N3
    go_wp2
    go_ret
    exact ⟨rfl, HB6.out⟩

end Go.Proofs.Ythlmffjafeodlaa.Lw
