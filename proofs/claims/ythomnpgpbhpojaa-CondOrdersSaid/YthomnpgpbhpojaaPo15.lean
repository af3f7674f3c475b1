/- cond: AddArc walked. -/
import Derived.Test.YthomnpgpbhpojaaPo5
import Derived.Test.YthomnpgpbhpojaaPo14
import Derived.Lib.SlicesCompact
import Derived.Test.YthomnpgpbhpojaaProg
import Derived.Test.YthomnpgpbhpojaaPo1
import Derived.KernelRfl
import Derived.Deep.RegionHeld3
import Derived.Deep.DrawnRows
import Derived.BigRegion
import Derived.Outline
import Derived.WalkLawsBesides
import Derived.WalkSpells
import Derived.Lib.Hide
namespace Go.Proofs.Ythomnpgpbhpojaa.Cd
open Go Go.RowKit Go.MapKept Go.Proofs.Ythomnpgpbhpojaa.Mem Go.Proofs.Ythomnpgpbhpojaa.Sl Go.Proofs.Ythomnpgpbhpojaa.Lw Go.Proofs.Ythomnpgpbhpojaa.Pt Go.Proofs.YthomnpgpbhpojaaW.PrintWords Go.Proofs.YthomnpgpbhpojaaW.PrintLast
attribute [local go_sem ↓] Go.wp_at_zero Go.wp_at_succ
set_option linter.unusedSimpArgs false
set_option linter.unusedVariables false

section
variable {w w' W W' w1 : World} {gc ga go gi gp gm : Nat} {lk : Int} {arcs : Int → Option (Int × Int)} {ob ib : Int → Nat} {cls : Int → Option Nat} {row : Nat → List Int} {val : Nat → Value} {tg : Nat → Nat × Int} {pb cb : Nat → Prop} {fa fo fi fu fv : Int → Option Value} {Fo Fi : Int → Int → Option Value} {D : Int → Prop}
def AddP (arcs : Int → Option (Int × Int)) (cls cls' : Int → Option Nat) (u v lk : Int) : Prop :=
  (cls u = cls v ∧ lk = 0 ∧ cls' = cls) ∨ (cls u ≠ cls v ∧ ∃ S : List Int, S.Nodup ∧ (∀ x, x ∈ S ↔ Cl (fun x y => ∃ e, arcs e = some (x, y)) v x) ∧
    ((u ∉ S ∧ lk = S.length ∧ cls' = cls) ∨ (u ∈ S ∧ ∃ T : List Int, T.Nodup ∧ (∀ x, x ∈ T ↔ Cl (fun x y => (∃ e, arcs e = some (y, x)) ∧ y ∈ S) u x) ∧ lk = S.length + T.length ∧ Joined cls cls' T)))
def tb13_7.T7 : Bool × List (List Nat × List Nat) := (true, [([], []), ([0], [0]), ([1], [1]), ([2], [2]), ([], []), ([], []), ([5], [5]), ([6], [6]), ([7], [7]), ([], []), ([8, 9], [8, 9]), ([], []), ([], []), ([12], [12]), ([13], [13]), ([14], [14]), ([], []), ([15, 16], [15, 16]), ([], []), ([], []), ([], []), ([], []), ([3, 4, 8, 10, 15, 17], [3, 4]), ([22], [22]), ([3, 23, 19, 22, 0, 1, 2, 3, 4, 8, 10, 15, 17, 19, 22], [3, 19, 23]), ([10, 11, 24, 0, 1, 2, 3, 4, 8, 10, 15, 17, 19, 22, 23, 24], [10, 11]), ([25], [25]), ([10, 26, 20, 25, 0, 1, 2, 3, 4, 5, 6, 7, 8, 9, 10, 11, 15, 17, 19, 20, 22, 23, 24, 25], [10, 20, 26]), ([17, 18, 27, 0, 1, 2, 3, 4, 5, 6, 7, 8, 9, 10, 11, 15, 17, 19, 20, 22, 23, 24, 25, 26, 27], [17, 18]), ([28], [28]), ([17, 29, 21, 28, 0, 1, 2, 3, 4, 5, 6, 7, 8, 9, 10, 11, 12, 13, 14, 15, 16, 17, 18, 19, 20, 21, 22, 23, 24, 25, 26, 27, 28], [17, 21, 29])])
def tb13_7.B7 : List Nat := [0, 1, 3, 7, 0, 0, 32, 96, 224, 0, 992, 0, 0, 4096, 12288, 28672, 0, 126976, 0, 0, 0, 0, 260095, 4454399, 13367295, 30146559, 63700991, 131858431, 266338303, 534773759, 1073741823]
theorem tb13_7.tab7 : rtab .any (opsOf Try.f13 7) = tb13_7.T7 := by kernel_rfl
theorem tb13_7.bits7 : waitsOk tb13_7.T7.2 tb13_7.B7 = true := by kernel_rfl
set_option maxHeartbeats 16000000 in
set_option maxRecDepth 100000 in
theorem adda_calls (h : CdS w gc ga go gi gp gm lk arcs ob ib cls row val tg pb cb) (V : List Int) (hV : ∀ x, cls x ≠ none → x ∈ V) (hVl : V.length ≤ 500) (e u v : Int) (he : arcs e = none) (hu : cls u ≠ none) (hv : cls v ≠ none) (hf : ∃ K : List Int, K.length ≤ 999 ∧ ∀ e, arcs e ≠ none → e ∈ K) :
    Calls Try.prog 13 #[.pointer (some ⟨gc, 0, none⟩), .int .i64 e, .int .i64 u, .int .i64 v] w fun en w' => en = .returned (.int .i64 0) ∧ Kpt cb w w' ∧ ∃ lk' cls' row' val' pb', CdS w' gc ga go gi gp gm lk' (addA arcs e u v) ob ib cls' row' val' tg pb' (ext cb w w') ∧ AddP (addA arcs e u v) cls cls' u v lk' := by
  have q0 := h.m.hc.cell 0 rfl
  have l0 := lookE h.m.ha e
  have he2 : arF arcs e = none := by simp [arF, he]
  rw [he2, Option.getD_none, Option.isSome_none] at l0
  have hb := ((Below.refl w.heap.size w).alloc (Nat.le_refl _) (.cells #[.int .i64 0, .int .i64 0] 69))
  have hb2 : Below w.heap.size w ((w.alloc (.cells #[.int .i64 0, .int .i64 0] 69)).alloc (.cells #[.int .i64 u, .int .i64 v] 69)) := hb.alloc (by simp) _
  have hh := h.below hb
  have em1 := eqm_some
  have q1 := hh.m.hc.cell 1 rfl
  have l1 := lookV hh.m.ho u
  have l2 := lookV hh.m.ho v
  rw [vtF_some hu, Option.getD_some] at l1
  rw [vtF_some hv, Option.getD_some] at l2
  have H0 := Lib.hid (And.intro h (And.intro hu (And.intro hv (And.intro he (And.intro hf (And.intro hV hVl))))))
  have HB := Lib.hid hb2
  clear h he he2 hu hv hf hV hVl hb hb2 hh
  go_enter Try.func13, Try.ntmps13
  go_upto_region 7 with (fail)
  refine gen_world (fun W => Below w.heap.size w W ∧ At W (w.heap.size + 1) [.int .i64 u, .int .i64 v] 69) ⟨HB.out, At.made (by simp) rfl⟩ ?_
  obtain ⟨g11, hg11⟩ : ∃ g, w.heap.size + 1 = g := ⟨_, rfl⟩
  obtain ⟨g9, hg9⟩ : ∃ g, w.heap.size = g := ⟨_, rfl⟩
  rw [hg11]
  rintro w1 ⟨hb1, hat⟩
  clear q0 l0 em1 q1 l1 l2 HB
  obtain ⟨h, hu, hv, he, hf, hV, hVl⟩ := H0.out
  have h1 := h.below hb1
  obtain ⟨bu, hbu⟩ : ∃ bu, ob u = bu := ⟨_, rfl⟩
  obtain ⟨bv, hbv⟩ : ∃ bv, ib v = bv := ⟨_, rfl⟩
  have hg1 : g11 = w.heap.size + 1 := hg11.symm
  have hF : ∀ W, Kpt (fun k => k = ga ∨ k = bu ∨ k = bv) w1 W → W.cell? ⟨gc, 0, none⟩ = some (.map (some ga)) ∧ W.cell? ⟨gc, 1, none⟩ = some (.map (some go)) ∧ W.cell? ⟨gc, 2, none⟩ = some (.map (some gi)) ∧
      (Instr.lookup 54 (.map (some go)) (.int .i64 u) false).run Try.prog W = .ok (.map (some bu)) W ∧ (Instr.lookup 54 (.map (some gi)) (.int .i64 v) false).run Try.prog W = .ok (.map (some bv)) W ∧
      W.cell? ⟨g11, 0, none⟩ = some (.int .i64 u) ∧ W.cell? ⟨g11, 1, none⟩ = some (.int .i64 v) := fun W hk => by
    subst hbu hbv
    have hmq : ∀ {g : Nat} {cs : List Value} {T : TypeId}, At w1 g cs T → ¬ (g = ga ∨ g = ob u ∨ g = ib v) := fun hg hh => hh.elim (h1.m.ha.ne hg) fun hh => hh.elim ((h1.m.oo u hu).ne hg) ((h1.m.ii v hv).ne hg)
    have hno : ∀ {k : Nat}, (tg k ≠ (0, 0) ∧ tg k ≠ (4, u) ∧ tg k ≠ (5, v)) → ¬ (k = ga ∨ k = ob u ∨ k = ib v) := fun hn hh => hh.elim (fun e => hn.1 (e ▸ h1.m.t.a)) fun hh => hh.elim (fun e => hn.2.1 (e ▸ h1.m.t.ob u hu)) fun e => hn.2.2 (e ▸ h1.m.t.ib v hv)
    have c1 := h1.m.hc.kept hk (hmq h1.m.hc)
    have c2 := hat.kept hk (hmq hat)
    have lu := lookV (h1.m.ho.move (hk.block _ h1.m.ho.lt (hno (by rw [h1.m.t.o]; simp)))) u
    have lv := lookV (h1.m.hi.move (hk.block _ h1.m.hi.lt (hno (by rw [h1.m.t.i]; simp)))) v
    rw [vtF_some hu, Option.getD_some] at lu
    rw [vtF_some hv, Option.getD_some] at lv
    exact ⟨c1.cell 0 rfl, c1.cell 1 rfl, c1.cell 2 rfl, lu, lv, c2.cell 0 rfl, c2.cell 1 rfl⟩
  have hA : AAs w1 ga bu bv (arF arcs) (ouF arcs u) (inF arcs v) w1.drew := by
    subst hbu hbv
    exact ⟨(Kpt.refl _ _).drew, h1.m.ha, h1.m.oo u hu, h1.m.ii v hv, tgne h.m.t.a (h.m.t.ob u hu) (by simp), tgne h.m.t.a (h.m.t.ib v hv) (by simp), tgne (h.m.t.ob u hu) (h.m.t.ib v hv) (by simp)⟩
  have HF := Lib.hid hF
  have HA := Lib.hid hA
  have H1 := Lib.hid (And.intro h1 (And.intro hb1 (And.intro hat (And.intro hbu (And.intro hbv hg1)))))
  obtain ⟨q0, q1, q2, -⟩ := hF w1 (Kpt.refl _ _)
  obtain ⟨-, -, -, l1, l2, -⟩ := hF w1.drew (Kpt.refl _ _).drew
  obtain ⟨-, -, -, -, -, a0, a1⟩ := hF w1 (Kpt.refl _ _)
  clear h hu hv he hf hV hVl h1 hb1 hat hbu hbv hg1 hF hA hg11
  refine start_ (n := 31) (S := fun w' => w'.cell? ⟨gc, 0, none⟩ = some (.map (some ga)) ∧ w'.cell? ⟨gc, 1, none⟩ = some (.map (some go)) ∧ w'.cell? ⟨gc, 2, none⟩ = some (.map (some gi)) ∧ (Instr.lookup 54 (.map (some go)) (.int .i64 u) false).run Try.prog w' = .ok (.map (some bu)) w' ∧ (Instr.lookup 54 (.map (some gi)) (.int .i64 v) false).run Try.prog w' = .ok (.map (some bv)) w' ∧ w'.cell? ⟨g11, 0, none⟩ = some (.int .i64 u) ∧ w'.cell? ⟨g11, 1, none⟩ = some (.int .i64 v)) (ds := []) (bA 31 0) (by kernel_rfl) rfl rfl ⟨q0, q1, q2, l1, l2, a0, a1⟩ (fun hHeld => ?_)
  refine with_tabW tb13_7.tab7 tb13_7.bits7 (fun HT_ HW_ => ?_)
  refine pw_ 0 43 (bA 31 1) HT_.out ?_
  refine pw_ 1 44 (bA 31 3) HT_.out ?_
  refine pw_ 2 45 (bA 31 7) HT_.out ?_
  refine pw_ 4 47 (bA 31 23) HT_.out ?_
  refine pw_ 5 48 (bA 31 55) HT_.out ?_
  refine pw_ 6 49 (bA 31 119) HT_.out ?_
  refine pw_ 7 50 (bA 31 247) HT_.out ?_
  refine pw_ 9 52 (bA 31 759) HT_.out ?_
  refine pw_ 11 54 (bA 31 2807) HT_.out ?_
  refine pw_ 12 55 (bA 31 6903) HT_.out ?_
  refine pw_ 13 56 (bA 31 15095) HT_.out ?_
  refine pw_ 14 57 (bA 31 31479) HT_.out ?_
  refine pw_ 16 59 (bA 31 97015) HT_.out ?_
  refine pw_ 18 61 (bA 31 359159) HT_.out ?_
  refine tw_ 3 46 (bA 31 359167) HT_.out HW_.out hHeld (hv := by rintro w' ⟨s0, s1, s2, s3, s4, s5, s6⟩; go_simp; with_reducible rfl) (h := ?_)
  refine tw_ 8 51 (bA 31 359423) HT_.out HW_.out hHeld (hv := by rintro w' ⟨s0, s1, s2, s3, s4, s5, s6⟩; go_simp; with_reducible rfl) (h := ?_)
  refine tw_ 10 53 (bA 31 360447) HT_.out HW_.out hHeld (hv := by rintro w' ⟨s0, s1, s2, s3, s4, s5, s6⟩; go_simp; with_reducible rfl) (h := ?_)
  refine tw_ 15 58 (bA 31 393215) HT_.out HW_.out hHeld (hv := by rintro w' ⟨s0, s1, s2, s3, s4, s5, s6⟩; go_simp; with_reducible rfl) (h := ?_)
  refine tw_ 17 60 (bA 31 524287) HT_.out HW_.out hHeld (hv := by rintro w' ⟨s0, s1, s2, s3, s4, s5, s6⟩; go_simp; with_reducible rfl) (h := ?_)
  refine tw_ 19 62 (bA 31 1048575) HT_.out HW_.out hHeld (hv := by rintro w' ⟨s0, s1, s2, s3, s4, s5, s6⟩; go_simp; with_reducible rfl) (h := ?_)
  refine tw_ 20 63 (bA 31 2097151) HT_.out HW_.out hHeld (hv := by rintro w' ⟨s0, s1, s2, s3, s4, s5, s6⟩; go_simp; with_reducible rfl) (h := ?_)
  refine tw_ 21 64 (bA 31 4194303) HT_.out HW_.out hHeld (hv := by rintro w' ⟨s0, s1, s2, s3, s4, s5, s6⟩; go_simp; with_reducible rfl) (h := ?_)
  refine one_ (i := 22) (N := some 65) (bA 31 8388607) rfl rfl (one_of HT_.out (by kernel_rfl)) (by decide) (fun K hK => ?_)
  obtain ⟨x0, st0, oe0, hr, ha, hs⟩ := HA.out.ent e
  refine value_ (w1 := ?_) (v := ?_) (by rfl) rfl ?_ ?_
  rotate_left 2
  · go_simp
    constructor
    · rfl
    · rfl
  have HA := Lib.hid ha
  have HM := Lib.hid hs
  clear hr ha hs
  revert HA HM
  generalize putObj w1.drew ga oe0 = We0
  intro HA HM
  refine hK.out _ _ ⟨(HF.out _ HA.out.k).1, (HF.out _ HA.out.k).2.1, (HF.out _ HA.out.k).2.2.1, (HF.out _ HA.out.k).2.2.2.1, (HF.out _ HA.out.k).2.2.2.2.1, (HF.out _ HA.out.k).2.2.2.2.2.1, (HF.out _ HA.out.k).2.2.2.2.2.2⟩ (fun hHeld => ?_)
  clear hK K
  refine norm_ (a' := ?_) ?_ ?_
  rotate_left
  · show Act.put _ (some 65) _ = _
    simp only [Act.put, pA, pB, pC, pD, pE]; rfl
  refine pw_ 23 66 (bA 31 16777215) HT_.out ?_
  refine one_ (i := 24) (N := none) (bA 31 33554431) rfl rfl (one_of HT_.out (by kernel_rfl)) (by decide) (fun K hK => ?_)
  obtain ⟨os0, hr, ha⟩ := HA.out.st HM.out (.agg #[.int .i64 u, .int .i64 v])
  refine skip_ (w1 := ?_) (by rfl) rfl ?_ ?_
  rotate_left; · go_simp; rfl
  have HA := Lib.hid ha
  clear hr ha HM
  revert HA
  generalize putObj We0 ga os0 = Ws0
  intro HA
  refine hK.out _ _ ⟨(HF.out _ HA.out.k).1, (HF.out _ HA.out.k).2.1, (HF.out _ HA.out.k).2.2.1, (HF.out _ HA.out.k).2.2.2.1, (HF.out _ HA.out.k).2.2.2.2.1, (HF.out _ HA.out.k).2.2.2.2.2.1, (HF.out _ HA.out.k).2.2.2.2.2.2⟩ (fun hHeld => ?_)
  clear hK K
  refine one_ (i := 25) (N := some 67) (bA 31 67108863) rfl rfl (one_of HT_.out (by kernel_rfl)) (by decide) (fun K hK => ?_)
  obtain ⟨x1, st1, oe1, hr, ha, hs⟩ := HA.out.rot.ent e
  refine value_ (w1 := ?_) (v := ?_) (by rfl) rfl ?_ ?_
  rotate_left 2
  · go_simp
    constructor
    · rfl
    · rfl
  have HA := Lib.hid ha.rot.rot
  have HM := Lib.hid hs
  clear hr ha hs
  revert HA HM
  generalize putObj Ws0 bu oe1 = We1
  intro HA HM
  refine hK.out _ _ ⟨(HF.out _ HA.out.k).1, (HF.out _ HA.out.k).2.1, (HF.out _ HA.out.k).2.2.1, (HF.out _ HA.out.k).2.2.2.1, (HF.out _ HA.out.k).2.2.2.2.1, (HF.out _ HA.out.k).2.2.2.2.2.1, (HF.out _ HA.out.k).2.2.2.2.2.2⟩ (fun hHeld => ?_)
  clear hK K
  refine norm_ (a' := ?_) ?_ ?_
  rotate_left
  · show Act.put _ (some 67) _ = _
    simp only [Act.put, pA, pB, pC, pD, pE]; rfl
  refine pw_ 26 68 (bA 31 134217727) HT_.out ?_
  refine one_ (i := 27) (N := none) (bA 31 268435455) rfl rfl (one_of HT_.out (by kernel_rfl)) (by decide) (fun K hK => ?_)
  obtain ⟨os1, hr, ha⟩ := HA.out.rot.st HM.out (.agg #[.int .i64 u, .int .i64 v])
  refine skip_ (w1 := ?_) (by rfl) rfl ?_ ?_
  rotate_left; · go_simp; rfl
  have HA := Lib.hid ha.rot.rot
  clear hr ha HM
  revert HA
  generalize putObj We1 bu os1 = Ws1
  intro HA
  refine hK.out _ _ ⟨(HF.out _ HA.out.k).1, (HF.out _ HA.out.k).2.1, (HF.out _ HA.out.k).2.2.1, (HF.out _ HA.out.k).2.2.2.1, (HF.out _ HA.out.k).2.2.2.2.1, (HF.out _ HA.out.k).2.2.2.2.2.1, (HF.out _ HA.out.k).2.2.2.2.2.2⟩ (fun hHeld => ?_)
  clear hK K
  refine one_ (i := 28) (N := some 69) (bA 31 536870911) rfl rfl (one_of HT_.out (by kernel_rfl)) (by decide) (fun K hK => ?_)
  obtain ⟨x2, st2, oe2, hr, ha, hs⟩ := HA.out.rot.rot.ent e
  refine value_ (w1 := ?_) (v := ?_) (by rfl) rfl ?_ ?_
  rotate_left 2
  · go_simp
    constructor
    · rfl
    · rfl
  have HA := Lib.hid ha.rot
  have HM := Lib.hid hs
  clear hr ha hs
  revert HA HM
  generalize putObj Ws1 bv oe2 = We2
  intro HA HM
  refine hK.out _ _ ⟨(HF.out _ HA.out.k).1, (HF.out _ HA.out.k).2.1, (HF.out _ HA.out.k).2.2.1, (HF.out _ HA.out.k).2.2.2.1, (HF.out _ HA.out.k).2.2.2.2.1, (HF.out _ HA.out.k).2.2.2.2.2.1, (HF.out _ HA.out.k).2.2.2.2.2.2⟩ (fun hHeld => ?_)
  clear hK K
  refine norm_ (a' := ?_) ?_ ?_
  rotate_left
  · show Act.put _ (some 69) _ = _
    simp only [Act.put, pA, pB, pC, pD, pE]; rfl
  refine pw_ 29 70 (bA 31 1073741823) HT_.out ?_
  refine one_ (i := 30) (N := none) (bA 31 2147483647) rfl rfl (one_of HT_.out (by kernel_rfl)) (by decide) (fun K hK => ?_)
  obtain ⟨os2, hr, ha⟩ := HA.out.rot.rot.st HM.out (.agg #[.int .i64 u, .int .i64 v])
  refine skip_ (w1 := ?_) (by rfl) rfl ?_ ?_
  rotate_left; · go_simp; rfl
  have HA := Lib.hid ha.rot
  clear hr ha HM
  revert HA
  generalize putObj We2 bv os2 = Ws2
  intro HA
  refine hK.out _ _ ⟨(HF.out _ HA.out.k).1, (HF.out _ HA.out.k).2.1, (HF.out _ HA.out.k).2.2.1, (HF.out _ HA.out.k).2.2.2.1, (HF.out _ HA.out.k).2.2.2.2.1, (HF.out _ HA.out.k).2.2.2.2.2.1, (HF.out _ HA.out.k).2.2.2.2.2.2⟩ (fun hHeld => ?_)
  clear hK K
  refine done_ (done_of HT_.out (by kernel_rfl)) ?_
  clear hHeld HT_ HW_; clear q0 q1 q2 l1 l2 a0 a1 HF
  obtain ⟨h, hu, hv, he, hf, hV, hVl⟩ := H0.out
  obtain ⟨h1, hb1, hat, hbu, hbv, hg1⟩ := H1.out
  subst hbu hbv
  have hk1 : Kpt cb w Ws2 := (Kpt.of_below (p := cb) hb1).trans (HA.out.k.mono fun k _ e => e.elim (fun e => e ▸ h.m.ca) fun e => e.elim (fun e => e ▸ h.m.cob u hu) fun e => e ▸ h.m.cib v hv)
  have h2 := adda_end h1 hu hv he hf HA.out
  have c4 := h2.m.hc.cell 4 rfl
  have f4 := h2.m.hc.free 4
  have h3 := h2.look 0
  have hk3 : Kpt cb w (Ws2.setCell ⟨gc, 4, none⟩ (.int .i64 0)) := hk1.set (fun _ => h.m.cc) _
  have q3 := h3.m.hc.cell 3 rfl
  obtain ⟨sb, hsb⟩ : ∃ sb, sameV cls u v = sb := ⟨_, rfl⟩
  have HC := Lib.hid (same_calls h3.p u v)
  rw [show decide (cls u ≠ none ∧ cls u = cls v) = sb from hsb] at HC
  have H3 := Lib.hid (And.intro h3 (And.intro hk3 hsb))
  clear h hu hv he hf hV hVl h1 hb1 hat hg1 hk1 h2 h3 hk3 hsb HA H1
  go_wp2_with fail
  refine HC.out.mono ?_
  clear HC c4 f4 q3
  rintro en wS ⟨rfl, hbS⟩
  obtain ⟨h3, hk3, hsb⟩ := H3.out
  have hS := h3.below hbS
  have hkS : Kpt cb w wS := hk3.below hbS
  cases sb with
  | true =>
    have HE := Lib.hid (And.intro hS (And.intro hkS hsb))
    clear h3 hk3 hsb hS hkS hbS H3
    go_wp2
    go_ret
    obtain ⟨hS, hkS, hsb⟩ := HE.out
    exact ⟨rfl, hkS, 0, cls, row, val, pb, hS.grow w, .inl ⟨(of_decide_eq_true hsb).2, rfl, rfl⟩⟩
  | false =>
    obtain ⟨h, hu, hv, he, hf, hV, hVl⟩ := H0.out
    have hne : cls u ≠ cls v := fun e => (of_decide_eq_false hsb) ⟨hu, e⟩
    have HC := Lib.hid (reachA_calls hS V hV (by omega) ⟨Int.le_refl _, by decide⟩ v hv)
    have H4 := Lib.hid (And.intro hkS hne)
    clear h3 hk3 hsb hS hkS hbS H3 h hu hv he hf hV hVl hne
    go_wp2_with fail
    refine HC.out.mono ?_
    clear HC
    rintro en wR ⟨bs, S, rfl, hbs, hmS, hSn, hSm, hR, hkR⟩
    obtain ⟨h, hu, hv, he, hf, hV, hVl⟩ := H0.out
    have hgs : gc ≠ wR.heap.size := fun e => by have := hR.m.hc.lt; omega
    have hkA : Kpt cb w wR := H4.out.1.trans (hkR.mono fun k _ e => e ▸ h.m.cc)
    have hb5 : Below wR.heap.size wR (wR.alloc (.cells #[.map (some bs)] 71)) := (Below.refl _ _).alloc (Nat.le_refl _) _
    have h5 := hR.below hb5
    have m5 := hmS.al (o := .cells #[.map (some bs)] 71)
    have hat5 : At (wR.alloc (.cells #[.map (some bs)] 71)) wR.heap.size [.map (some bs)] 71 := At.made rfl rfl
    have c5 := hat5.cell 0 rfl
    have l5 := look_seen m5 u
    have hSV : S.length ≤ V.length := nodup_le hSn fun x hx => hV x (by
      have hcl : ∀ y, Cl (fun x y => ∃ e', addA arcs e u v e' = some (x, y)) v y → cls y ≠ none := fun y hy => by
        induction hy with
        | base => exact hv
        | step _ h1 _ => obtain ⟨e', h1⟩ := h1; exact (hR.en _ _ h1).2
      exact hcl x ((hSm x).1 hx))
    by_cases hus : u ∈ S
    · rw [show seenF S u = some (.int .i64 1) from if_pos hus, Option.getD_some] at l5
      have HC := Lib.hid (reachB_calls h5 V hV (by omega) ⟨by omega, by omega⟩ u hu wR.heap.size bs S c5 hgs.symm m5)
      have H5 := Lib.hid (And.intro (hkA.below hb5) (And.intro hSn (And.intro hSm (And.intro hus hSV))))
      clear h hu hv he hf hV hVl hgs hkA hb5 h5 m5 hat5 hSV hbs hmS hSn hSm hR hkR hus
      go_wp2_with fail
      refine HC.out.mono ?_
      clear HC c5 l5
      rintro en wT ⟨bt, T, rfl, hbt, hmT, hTn, hTm, hT, hkT⟩
      obtain ⟨h, hu, hv, he, hf, hV, hVl⟩ := H0.out
      obtain ⟨hkA, hSn, hSm, hus, hSV⟩ := H5.out
      have hk6 : Kpt cb w wT := hkA.trans (hkT.mono fun k _ e => e ▸ h.m.cc)
      obtain ⟨o6, hrun, hMR⟩ := hmT.range (P := Try.prog) Try.underlying71
      have hb6 : Below wT.heap.size wT (wT.alloc o6) := (Below.refl _ _).alloc (Nat.le_refl _) _
      have hs1 := hkA.size
      have hsR := (World.size_alloc wR (.cells #[.map (some bs)] 71)).symm
      have hbt2 : w.heap.size ≤ bt := Nat.le_trans hs1 hbt
      have hr2 : w.heap.size ≤ wT.heap.size := hk6.size
      have hut : u ∈ T := (hTm u).2 .base
      have hTc : ∀ x, x ∈ T → cls x ≠ none := fun x hx => by
        have hcl : ∀ y, Cl (fun x y => (∃ e', addA arcs e u v e' = some (y, x)) ∧ y ∈ S) u y → cls y ≠ none := fun y hy => by
          induction hy with
          | base => exact hu
          | step _ h1 _ => obtain ⟨⟨e', h1⟩, _⟩ := h1; exact (hT.en _ _ h1).1
        exact hcl x ((hTm x).1 hx)
      have hncb : ∀ k, cb k → ext cb w (wT.alloc o6) k ∧ k ≠ bt ∧ k ≠ wT.heap.size := fun k hk => by
        have := h.m.lt k hk
        exact ⟨.inl hk, by omega, by omega⟩
      have H7 := Lib.hid (show MR (wT.alloc o6) wT.heap.size bt (seenF T) [] ∧ CdS (wT.alloc o6) gc ga go gi gp gm (0 + S.length + T.length) (addA arcs e u v) ob ib cls row val tg pb cb ∧ Kpt cb w (wT.alloc o6) ∧ ∀ k, cb k → ext cb w (wT.alloc o6) k ∧ k ≠ bt ∧ k ≠ wT.heap.size from ⟨hMR, hT.below hb6, hk6.below hb6, hncb⟩)
      have HR0 := Lib.hid hr2
      have H8 := Lib.hid (And.intro hTn (And.intro hTm (And.intro hut (And.intro hTc (And.intro hV (And.intro hVl (And.intro hu (And.intro hSn (And.intro hSm hus)))))))))
      clear h hu hv he hf hV hVl hkA hSn hSm hus hSV hk6 hMR hb6 hs1 hsR hbt hbt2 hr2 hut hTc hncb hmT hTn hTm hT hkT H5
      go_wp2_with fail
      obtain ⟨r, hr⟩ : ∃ r, wT.heap.size = r := ⟨_, rfl⟩
      refine gen_world (fun W => MR W wT.heap.size bt (seenF T) [] ∧ CdS W gc ga go gi gp gm (0 + S.length + T.length) (addA arcs e u v) ob ib cls row val tg pb cb ∧ Kpt cb w W ∧ ∀ k, cb k → ext cb w W k ∧ k ≠ bt ∧ k ≠ wT.heap.size) H7.out ?_
      rw [hr]
      rw [hr] at HR0
      clear hrun H7 hr
      rintro wL ⟨hM, hC, hK, hn⟩
      have H7 := Lib.hid (And.intro hM (And.intro hC (And.intro hK hn)))
      clear hM hC hK hn
      go_loopg [13] (T.length + 1) (fun kq v13 w' => Hid (∃ done cls' row' val' pb' cb', done.length + kq = T.length + 1 ∧ MR w' r bt (seenF T) done ∧ CdS w' gc ga go gi gp gm (0 + S.length + T.length) (addA arcs e u v) ob ib cls' row' val' tg pb' cb' ∧ Joined cls cls' (u :: done) ∧ Kpt cb w w' ∧ ∀ k, cb' k → ext cb w w' k ∧ k ≠ bt ∧ k ≠ r))
      case atStart => exact Lib.hid ⟨[], cls, row, val, pb, cb, by simp, H7.out.1, H7.out.2.1, Joined.refl u, H7.out.2.2⟩
      case round =>
        obtain ⟨done, cls', row', val', pb', cb', hdk, hM, hC, hJ, hK, hn⟩ := hrel.out
        clear hrel H7
        obtain ⟨hTn, hTm, hut, hTc, hV, hVl, hun, hSn, hSm, hus⟩ := H8.out
        have hdT : ∀ x ∈ done, x ∈ T := fun x hx => by
          obtain ⟨y, hy⟩ := hM.all x hx
          unfold seenF at hy
          by_cases e1 : x ∈ T
          · exact e1
          · rw [if_neg e1] at hy; cases hy
        rcases hM.next (P := Try.prog) 0 with ⟨hall, hnx⟩ | ⟨a, y, w2, hf, hnd, hnx, hM2, hg, hsz, hent⟩
        · have hTd : ∀ x, x ∈ u :: done ↔ x ∈ T := fun x => by
            constructor
            · intro hx
              rcases List.mem_cons.1 hx with rfl | hx
              · exact hut
              · exact hdT x hx
            · intro hx
              exact List.mem_cons_of_mem _ (hall x (.int .i64 1) (if_pos hx))
          have HE := Lib.hid (show Kpt cb w wr ∧ CdS wr gc ga go gi gp gm (0 + S.length + T.length) _ ob ib cls' row' val' tg pb' (ext cb w wr) ∧ AddP (addA arcs e u v) cls cls' u v (0 + S.length + T.length) from
            ⟨hK, hC.mono (fun k hk => (hn k hk).1) (fun k hk => hk.elim (fun e => Nat.lt_of_lt_of_le (H0.out.1.m.lt k e) hK.size) fun e => e.2), .inr ⟨H4.out.2, S, hSn, hSm, .inr ⟨hus, T, hTn, hTm, by omega, hJ.congr hTd⟩⟩⟩)
          clear hTn hTm hut hTc hV hVl hun hSn hSm hus hdT hall hTd hM hC hJ hK hn hdk
          go_wp2
          go_ret
          exact ⟨rfl, HE.out.1, _, cls', row', val', pb', HE.out.2⟩
        · obtain ⟨k1, rfl⟩ : ∃ k1, gk = k1 + 1 := ⟨gk - 1, by have := nodup_le hM.2.1 hdT; omega⟩
          have hTd2 : a ∈ T := by
            unfold seenF at hf
            by_cases e1 : a ∈ T
            · exact e1
            · rw [if_neg e1] at hf; cases hf
          have hk2 : Kpt (· = r) wr w2 := (Kpt.refl _ _).grown hg fun k hk _ => by cases hk; rfl
          have hC2 := hC.kept hk2 fun k hk => (hn k hk).2.2
          have hK2 : Kpt cb w w2 := hK.trans' hk2 fun k hk e => by
            have := HR0.out
            omega
          have q3 := hC2.m.hc.cell 3 rfl
          have HC := Lib.hid (join_step hC2 hJ u a (by simp) hun (hTc a hTd2) hV hVl)
          have H9 := Lib.hid (show MR w2 r bt (seenF T) (done ++ [a]) ∧ Kpt cb w w2 ∧ (∀ k, cb' k → ext cb w w2 k ∧ k ≠ bt ∧ k ≠ r) ∧ done.length + (k1 + 1) = T.length + 1 ∧ bt < w2.heap.size ∧ r < w2.heap.size ∧ ∀ k, pb' k → cb' k from
            ⟨hM2, hK2, fun k hk => ⟨(hn k hk).1.imp id fun e => ⟨e.1, by omega⟩, (hn k hk).2⟩, hdk, hM2.1.lt, hM2.lt, hC2.m.cp⟩)
          clear hTn hTm hut hTc hV hVl hun hSn hSm hus hdT hM hC hJ hK hn hdk hf hnd hM2 hg hsz hTd2 hk2 hC2 hK2
          go_wp2_with fail
          refine HC.out.mono ?_
          clear HC q3
          rintro en w3 ⟨jb, rfl, cls2, row2, val2, pb2, cb2, hC3, hJ3, hk3, hcb3, hpb3⟩
          have HR := Lib.hid (show ∃ done cls' row' val' pb' cb', done.length + k1 = T.length + 1 ∧ MR w3 r bt (seenF T) done ∧ CdS w3 gc ga go gi gp gm (0 + S.length + T.length) (addA arcs e u v) ob ib cls' row' val' tg pb' cb' ∧ Joined cls cls' (u :: done) ∧ Kpt cb w w3 ∧ ∀ k, cb' k → ext cb w w3 k ∧ k ≠ bt ∧ k ≠ r from by
            obtain ⟨hM, hK, hn, hdk, l1, l2, hp⟩ := H9.out
            refine ⟨done ++ [a], cls2, row2, val2, pb2, cb2, by simp; omega, hM.move (hk3.block _ l1 fun e => (hn _ (hp _ e)).2.1 rfl) (hk3.block _ l2 fun e => (hn _ (hp _ e)).2.2 rfl), hC3, hJ3, hK.trans' hk3 fun k hk e => ((hn k (hp k e)).1).elim id fun e => absurd hk (by omega), fun k hk => ?_⟩
            have hs3 := hk3.size
            rcases hcb3 k hk with e | ⟨e1, e2⟩
            · exact ⟨(hn k e).1.imp id fun e => ⟨e.1, by omega⟩, (hn k e).2⟩
            · exact ⟨.inr ⟨by have := hK.size; omega, e2⟩, by omega, by omega⟩)
          clear hC3 hJ3 hk3 hcb3 hpb3 H9 hent hnx
          go_wp2
          go_roundg k1
          case measure => omega
          case rel => exact HR
    · rw [show seenF S u = none from if_neg hus, Option.getD_none] at l5
      have HE := Lib.hid (show Kpt cb w _ ∧ CdS _ gc ga go gi gp gm _ _ ob ib cls row val tg pb _ ∧ AddP (addA arcs e u v) cls cls u v _ from ⟨hkA.below hb5, h5.grow w, .inr ⟨H4.out.2, S, hSn, hSm, .inl ⟨hus, Int.zero_add _, rfl⟩⟩⟩)
      clear h hu hv he hf hV hVl hgs hkA hb5 h5 m5 hat5 hSV hbs hmS hSn hSm hR hkR hus
      go_wp2
      go_ret
      exact ⟨rfl, HE.out.1, _, cls, row, val, pb, HE.out.2⟩
end
end Go.Proofs.Ythomnpgpbhpojaa.Cd

/- The plain model of scc's search: what the Go code computes, on lists of numbers alone. -/
namespace Go.Proofs.Ythomnpgpbhpojaa.Tj
set_option linter.unusedSimpArgs false
set_option linter.unusedVariables false

structure St where
  idx : List Nat
  low : List Nat
  inn : List Bool
  opn : List Nat   -- the top first
  comp : List Nat
  cnt : Nat
  time : Nat

def enterS (S : St) (v : Nat) : St :=
  { S with time := S.time + 1, idx := S.idx.set v (S.time + 1), low := S.low.set v (S.time + 1), inn := S.inn.set v true, opn := v :: S.opn }

def popS (v cnt : Nat) : List Nat → List Bool → List Nat → Option (List Nat × List Bool × List Nat)
  | [], _, _ => none
  | w :: r, inn, comp =>
    if w < comp.length then
      (if w = v then some (r, inn.set w false, comp.set w cnt) else popS v cnt r (inn.set w false) (comp.set w cnt))
    else none

def leaveS (S : St) (v : Nat) : Option St :=
  if S.low.getD v 0 = S.idx.getD v 0 then
    (if S.cnt < 1000000 ∧ S.opn.length ≤ 1000000 then (popS v S.cnt S.opn S.inn S.comp).map fun r => { S with opn := r.1, inn := r.2.1, comp := r.2.2, cnt := S.cnt + 1 } else none)
  else some S

def fromS (n : Nat) (out : List (List Nat)) : Nat → St → List (Nat × Nat) → Option St
  | 0, _, _ => none
  | _ + 1, S, [] => some S
  | k + 1, S, (v, m) :: way =>
    if v < n then
      if m = (out.getD v []).length then
        (leaveS S v).bind fun S1 => match way with
          | [] => fromS n out k S1 []
          | (u, m') :: r => if u < n then fromS n out k { S1 with low := S1.low.set u (min (S1.low.getD u 0) (S1.low.getD v 0)) } ((u, m') :: r) else none
      else if m < (out.getD v []).length then
        if (out.getD v []).getD m 0 < n then
          if S.idx.getD ((out.getD v []).getD m 0) 0 = 0 then
            if S.time < 1000000 ∧ S.opn.length < 1000000 ∧ way.length < 1000000 then fromS n out k (enterS S ((out.getD v []).getD m 0)) (((out.getD v []).getD m 0, 0) :: (v, m + 1) :: way) else none
          else if S.inn.getD ((out.getD v []).getD m 0) false = true then
            fromS n out k { S with low := S.low.set v (min (S.low.getD v 0) (S.idx.getD ((out.getD v []).getD m 0) 0)) } ((v, m + 1) :: way)
          else fromS n out k S ((v, m + 1) :: way)
        else none
      else none
    else none

end Go.Proofs.Ythomnpgpbhpojaa.Tj

/- The plain model of scc's comps. -/
namespace Go.Proofs.Ythomnpgpbhpojaa.Tj

def scanS (n : Nat) (out : List (List Nat)) (k : Nat) : List Nat → St → Option St
  | [], S => some S
  | v :: r, S =>
    if S.idx.getD v 0 = 0 then
      (if S.time < 1000000 ∧ S.opn.length < 1000000 then (fromS n out k (enterS S v) [(v, 0)]).bind (scanS n out k r) else none)
    else scanS n out k r S

def renum : List Nat → List Nat → Nat → Option (List Nat × Nat)
  | [], _, next => some ([], next)
  | c :: r, number, next =>
    if c < number.length ∧ next < 1000000 ∧ number.getD c 0 ≤ 1000000 then
      (if number.getD c 0 = 0 then (renum r (number.set c (next + 1)) (next + 1)).map fun x => (next :: x.1, x.2)
       else (renum r number next).map fun x => ((number.getD c 0 - 1) :: x.1, x.2))
    else none

def st0 (n : Nat) : St := { idx := List.replicate n 0, low := List.replicate n 0, inn := List.replicate n false, opn := [], comp := List.replicate n 0, cnt := 0, time := 0 }

def compsS (n : Nat) (out : List (List Nat)) (k : Nat) : Option (List Nat × Nat) :=
  (scanS n out k (List.range n) (st0 n)).bind fun S => renum S.comp (List.replicate n 0) 0

end Go.Proofs.Ythomnpgpbhpojaa.Tj

/- The plain model of scc's made. -/
namespace Go.Proofs.Ythomnpgpbhpojaa.Tj

def arcsS (vs : List Int) : List (Int × Int) → List (List Nat) → Option (List (List Nat))
  | [], out => some out
  | (u, v) :: r, out =>
    if vs.contains u = true ∧ vs.contains v = true then
      arcsS vs r (out.set (vs.countP (· < u)) (out.getD (vs.countP (· < u)) [] ++ [vs.countP (· < v)]))
    else none

theorem countP_lt {l : List Int} {u : Int} (h : l.contains u = true) : l.countP (· < u) < l.length := by
  have h1 := List.countP_le_length (p := fun x => decide (x < u)) (l := l)
  rcases Nat.lt_or_ge (l.countP (· < u)) l.length with h2 | h2
  · exact h2
  · have h3 := List.countP_eq_length.1 (Nat.le_antisymm h1 h2) u (by simpa using h)
    simp at h3

end Go.Proofs.Ythomnpgpbhpojaa.Tj

/- The plain model of scc's Of. -/
namespace Go.Proofs.Ythomnpgpbhpojaa.Tj

def groupL : List Nat → List Int → List (List Int) → Option (List (List Int))
  | c :: r, x :: xs, out => if c < out.length then groupL r xs (out.set c (out.getD c [] ++ [x])) else none
  | _, _, out => some out

theorem groupL_length : ∀ (cs : List Nat) (xs : List Int) (out ls : List (List Int)), groupL cs xs out = some ls → ls.length = out.length
  | [], _, out, ls, h => by rw [groupL.eq_2] at h; cases h; rfl; intros; simp_all
  | _ :: _, [], out, ls, h => by rw [groupL.eq_2] at h; cases h; rfl; intros; simp_all
  | c :: r, x :: xs, out, ls, h => by
    rw [groupL] at h
    split at h
    · have := groupL_length r xs _ ls h
      simpa using this
    · cases h

def ofS (l : List Int) (arcs : List (Int × Int)) (sl : List Int) (k : Nat) : Option (Nat × List (List Int)) :=
  if (Lib.compact sl).length = l.length then
    match arcsS sl arcs (List.replicate l.length []) with
    | none => some (5, [])
    | some out => (compsS l.length out k).bind fun c => (groupL c.1 sl (List.replicate c.2 [])).map fun ls => (0, ls)
  else some (2, [])

end Go.Proofs.Ythomnpgpbhpojaa.Tj

/- The plain model keeps its rows' lengths. -/
namespace Go.Proofs.Ythomnpgpbhpojaa.Tj

structure Len (n : Nat) (S : St) : Prop where
  i : S.idx.length = n
  l : S.low.length = n
  b : S.inn.length = n
  c : S.comp.length = n

theorem Len.st0 (n : Nat) : Len n (st0 n) := by constructor <;> simp [Tj.st0]
theorem Len.enter {n : Nat} {S : St} (h : Len n S) (v : Nat) : Len n (enterS S v) := by
  constructor <;> simp [enterS, h.i, h.l, h.b, h.c]
theorem popS_len : ∀ (v cnt : Nat) (o : List Nat) (inn : List Bool) (comp : List Nat) (R : List Nat × List Bool × List Nat), popS v cnt o inn comp = some R → R.2.1.length = inn.length ∧ R.2.2.length = comp.length
  | _, _, [], _, _, _, h => by cases h
  | v, cnt, w :: r, inn, comp, R, h => by
    rw [popS] at h
    split at h
    · split at h
      · cases h; simp
      · have := popS_len v cnt r _ _ R h
        simpa using this
    · cases h
theorem Len.leave {n : Nat} {S S2 : St} (h : Len n S) {v : Nat} (h2 : leaveS S v = some S2) : Len n S2 := by
  unfold leaveS at h2
  split at h2
  · split at h2
    · cases hp : popS v S.cnt S.opn S.inn S.comp with
      | none => rw [hp] at h2; cases h2
      | some R =>
        rw [hp] at h2
        cases h2
        have := popS_len _ _ _ _ _ _ hp
        exact ⟨h.i, h.l, this.1.trans h.b, this.2.trans h.c⟩
    · cases h2
  · cases h2
    exact h
theorem Len.low {n : Nat} {S : St} (h : Len n S) (u x : Nat) : Len n { S with low := S.low.set u x } := ⟨h.i, by simpa using h.l, h.b, h.c⟩
theorem Len.from {n : Nat} {out : List (List Nat)} : ∀ (k : Nat) (S : St) (way : List (Nat × Nat)) (R : St), Len n S → fromS n out k S way = some R → Len n R
  | 0, _, _, _, _, h => by cases h
  | _ + 1, S, [], R, hS, h => by simp only [fromS] at h; cases h; exact hS
  | k + 1, S, (v, m) :: way, R, hS, h => by
    simp only [fromS] at h
    split at h
    · split at h
      · cases hl : leaveS S v with
        | none => rw [hl] at h; cases h
        | some S1 =>
          rw [hl, Option.bind_some] at h
          have h1 := hS.leave hl
          cases way with
          | nil => exact Len.from k S1 [] R h1 h
          | cons p r =>
            obtain ⟨u, m'⟩ := p
            dsimp only at h
            split at h
            · exact Len.from k _ _ R (h1.low _ _) h
            · cases h
      · split at h
        · split at h
          · split at h
            · split at h
              · exact Len.from k _ _ R (hS.enter _) h
              · cases h
            · split at h
              · exact Len.from k _ _ R (hS.low _ _) h
              · exact Len.from k _ _ R hS h
          · cases h
        · cases h
    · cases h
theorem Len.scan {n : Nat} {out : List (List Nat)} {k : Nat} : ∀ (l : List Nat) (S R : St), Len n S → scanS n out k l S = some R → Len n R
  | [], S, R, hS, h => by simp only [scanS] at h; cases h; exact hS
  | v :: r, S, R, hS, h => by
    rw [scanS] at h
    split at h
    · split at h
      · cases hf : fromS n out k (enterS S v) [(v, 0)] with
        | none => rw [hf] at h; cases h
        | some S2 =>
          rw [hf, Option.bind_some] at h
          exact Len.scan r S2 R (Len.from k _ _ _ (hS.enter v) hf) h
      · cases h
    · exact Len.scan r S R hS h
theorem renum_len : ∀ (c num : List Nat) (nx : Nat) (o : List Nat) (nx' : Nat), renum c num nx = some (o, nx') → nx ≤ 1000000 → o.length = c.length ∧ nx' ≤ 1000000
  | [], num, nx, o, nx', h, hn => by rw [renum] at h; cases h; exact ⟨rfl, hn⟩
  | c :: r, num, nx, o, nx', h, hn => by
    rw [renum] at h
    split at h
    · rename_i hc
      split at h
      · cases hr : renum r (num.set c (nx + 1)) (nx + 1) with
        | none => rw [hr] at h; cases h
        | some q =>
          rw [hr] at h
          obtain ⟨o1, n1⟩ := q
          cases h
          have := renum_len r _ _ o1 n1 hr (by omega)
          exact ⟨by simp [this.1], this.2⟩
      · cases hr : renum r num nx with
        | none => rw [hr] at h; cases h
        | some q =>
          rw [hr] at h
          obtain ⟨o1, n1⟩ := q
          cases h
          have := renum_len r _ _ o1 n1 hr hn
          exact ⟨by simp [this.1], this.2⟩
    · cases h
theorem comps_len {n : Nat} {out : List (List Nat)} {k : Nat} {comp : List Nat} {next : Nat} (h : compsS n out k = some (comp, next)) : comp.length = n ∧ next ≤ 1000000 := by
  unfold compsS at h
  cases hs : scanS n out k (List.range n) (st0 n) with
  | none => rw [hs] at h; cases h
  | some S =>
    rw [hs, Option.bind_some] at h
    have h1 := Len.scan _ _ _ (Len.st0 n) hs
    have h2 := renum_len _ _ _ _ _ h (by omega)
    exact ⟨h2.1.trans h1.c, h2.2⟩

end Go.Proofs.Ythomnpgpbhpojaa.Tj

/- The plain model of scc.Order: heads, arcs into a component, the components that are ready. -/
namespace Go.Proofs.Ythomnpgpbhpojaa.Tj

end Go.Proofs.Ythomnpgpbhpojaa.Tj

/- scc.search in memory, and what enter does. -/
namespace Go.Proofs.Ythomnpgpbhpojaa.Scc
set_option linter.unusedSimpArgs false
set_option linter.unusedVariables false
open Go Go.RowKit Go.Proofs.Ythomnpgpbhpojaa.Mem Go.Proofs.Ythomnpgpbhpojaa.Tj
attribute [local go_sem ↓] Go.wp_at_zero Go.wp_at_succ

theorem info_int : (Try.prog.info? 3).map (fun i => (i.zero, i.size, i.bytes)) = some (some (.int .i64 0), 1, 8) := by kernel_rfl

structure Srch (w : World) (base gs gg bi bl bn bc n : Nat) (ov : Value) (S : St) : Prop where
  hs : At w gs [.pointer (some ⟨gg, 0, none⟩), .slice (some ⟨bi, 0, none⟩) n n, .slice (some ⟨bl, 0, none⟩) n n, .slice (some ⟨bn, 0, none⟩) n n, ov, .slice (some ⟨bc, 0, none⟩) n n, (.int .i64 (S.cnt : Int)), (.int .i64 (S.time : Int))] 126
  hi : At w bi (nats S.idx) 3
  hl : At w bl (nats S.low) 3
  hn : At w bn (bls S.inn) 4
  hc : At w bc (nats S.comp) 3
  ho : w.ownsRow base 3 1 ov S.opn.length (nats S.opn.reverse)
  hil : S.idx.length = n
  hll : S.low.length = n
  hnl : S.inn.length = n
  hcl : S.comp.length = n

structure Lie (G base gs bi bl bn bc : Nat) : Prop where
  a1 : G ≤ gs
  a2 : G ≤ bi
  a3 : G ≤ bl
  a4 : G ≤ bn
  a5 : G ≤ bc
  b1 : gs < base
  b2 : bi < base
  b3 : bl < base
  b4 : bn < base
  b5 : bc < base
  n1 : gs ≠ bi
  n2 : gs ≠ bl
  n3 : gs ≠ bn
  n4 : gs ≠ bc
  n5 : bi ≠ bl
  n6 : bi ≠ bn
  n7 : bi ≠ bc
  n8 : bl ≠ bn
  n9 : bl ≠ bc
  n10 : bn ≠ bc

structure Ext (G : Nat) (w w' : World) : Prop where
  below : Below G w w'
  way : ∀ k cs, At w k cs 137 → At w' k cs 137

theorem Ext.refl (G : Nat) (w : World) : Ext G w w := ⟨Below.refl G w, fun _ _ h => h⟩
theorem Ext.trans {G : Nat} {a b c : World} (h : Ext G a b) (k : Ext G b c) : Ext G a c := ⟨h.below.trans k.below, fun _ _ x => k.way _ _ (h.way _ _ x)⟩
theorem Ext.drew {G : Nat} {a b : World} (h : Ext G a b) : Ext G a b.drew := ⟨h.below.drew, h.way⟩
theorem Ext.drewN {G : Nat} {a b : World} (h : Ext G a b) (n : Nat) : Ext G a (b.drewN n) := ⟨below_drewN h.below n, h.way⟩
theorem Ext.alloc {G : Nat} {a b : World} (h : Ext G a b) (hG : G ≤ b.heap.size) (o : Obj) : Ext G a (b.alloc o) := ⟨h.below.alloc hG o, fun k cs x => (h.way k cs x).alloc o⟩
theorem Ext.set {G : Nat} {a b : World} (h : Ext G a b) {g : Nat} {cs : List Value} {T : TypeId} (hg : At b g cs T) (hG : G ≤ g) (hT : 137 ≠ T) (i : Nat) (u : Value) : Ext G a (b.setCell ⟨g, i, none⟩ u) :=
  ⟨h.below.setCell hG u, fun k cs' x => (h.way k cs' x).far ((h.way k cs' x).ne hg hT) u⟩
theorem Ext.grown {G : Nat} {a b c : World} (h : Ext G a b) {base n : Nat} {v : Value} {xs : List Value} (ho : b.ownsRow base 3 1 v n xs) (hg : b.grownBy c v.ownBlock) (hb : G ≤ base) (hG : G ≤ b.heap.size) : Ext G a c :=
  ⟨h.below.grown hg hG (fun k hk => Nat.le_trans hb (ho.lt k hk).1), fun k cs x => (h.way k cs x).grown hg (own_off ho (h.way k cs x) (by decide))⟩

theorem Srch.beside {w : World} {base gs gg bi bl bn bc n : Nat} {ov : Value} {S : St} {G : Nat} (h : Srch w base gs gg bi bl bn bc n ov S) (L : Lie G base gs bi bl bn bc) {k i : Nat} (hk : base ≤ k) (ho : some k ≠ ov.ownBlock) (u : Value) :
    Srch (w.setCell ⟨k, i, none⟩ u) base gs gg bi bl bn bc n ov S :=
  have := L.b1; have := L.b2; have := L.b3; have := L.b4; have := L.b5
  ⟨h.hs.off (by omega), h.hi.off (by omega), h.hl.off (by omega), h.hn.off (by omega), h.hc.off (by omega), ownsRow_setCell_other h.ho (fun e => ho e.symm) u, h.hil, h.hll, h.hnl, h.hcl⟩
theorem Srch.drewN {w : World} {base gs gg bi bl bn bc n : Nat} {ov : Value} {S : St} (h : Srch w base gs gg bi bl bn bc n ov S) (k : Nat) : Srch (w.drewN k) base gs gg bi bl bn bc n ov S :=
  ⟨h.hs, h.hi, h.hl, h.hn, h.hc, h.ho, h.hil, h.hll, h.hnl, h.hcl⟩
theorem Srch.drew {w : World} {base gs gg bi bl bn bc n : Nat} {ov : Value} {S : St} (h : Srch w base gs gg bi bl bn bc n ov S) : Srch w.drew base gs gg bi bl bn bc n ov S :=
  ⟨h.hs, h.hi, h.hl, h.hn, h.hc, h.ho, h.hil, h.hll, h.hnl, h.hcl⟩
theorem Srch.alloc {w : World} {base gs gg bi bl bn bc n : Nat} {ov : Value} {S : St} (h : Srch w base gs gg bi bl bn bc n ov S) (o : Obj) : Srch (w.alloc o) base gs gg bi bl bn bc n ov S :=
  ⟨h.hs.alloc o, h.hi.alloc o, h.hl.alloc o, h.hn.alloc o, h.hc.alloc o, h.ho.alloc o, h.hil, h.hll, h.hnl, h.hcl⟩
theorem Srch.grownWay {w w' : World} {base gs gg bi bl bn bc n m : Nat} {ov v : Value} {S : St} {G : Nat} {xs : List Value} (h : Srch w base gs gg bi bl bn bc n ov S) (L : Lie G base gs bi bl bn bc) (ho : w.ownsRow base 137 2 v m xs) (hg : w.grownBy w' v.ownBlock) :
    Srch w' base gs gg bi bl bn bc n ov S :=
  ⟨h.hs.grown hg (own_under ho L.b1), h.hi.grown hg (own_under ho L.b2), h.hl.grown hg (own_under ho L.b3), h.hn.grown hg (own_under ho L.b4), h.hc.grown hg (own_under ho L.b5),
    h.ho.kept hg (own_apart h.ho ho (by decide)), h.hil, h.hll, h.hnl, h.hcl⟩
theorem Ext.fresh {G : Nat} {a b : World} (h : Ext G a b) {k : Nat} (hk : a.heap.size ≤ k) (hG : G ≤ k) (i : Nat) (u : Value) : Ext G a (b.setCell ⟨k, i, none⟩ u) :=
  ⟨h.below.setCell hG u, fun k' cs x => (h.way k' cs x).off (by have := x.lt; omega)⟩

end Go.Proofs.Ythomnpgpbhpojaa.Scc
