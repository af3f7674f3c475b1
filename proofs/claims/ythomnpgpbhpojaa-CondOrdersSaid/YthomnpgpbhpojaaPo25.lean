/- cond: DropArc. -/
import Derived.Test.YthomnpgpbhpojaaPo5
import Derived.Test.YthomnpgpbhpojaaPo24
namespace Go.Proofs.Ythomnpgpbhpojaa.Cd
open Go Go.RowKit Go.MapKept Go.Proofs.Ythomnpgpbhpojaa.Mem Go.Proofs.Ythomnpgpbhpojaa.Sl Go.Proofs.Ythomnpgpbhpojaa.Lw Go.Proofs.Ythomnpgpbhpojaa.Pt Go.Proofs.YthomnpgpbhpojaaW.PrintWords Go.Proofs.YthomnpgpbhpojaaW.PrintLast
attribute [local go_sem ↓] Go.wp_at_zero Go.wp_at_succ
set_option linter.unusedSimpArgs false
set_option linter.unusedVariables false

section
variable {w w' W W' w1 : World} {gc ga go gi gp gm : Nat} {lk : Int} {arcs : Int → Option (Int × Int)} {ob ib : Int → Nat} {cls : Int → Option Nat} {row : Nat → List Int} {val : Nat → Value} {tg : Nat → Nat × Int} {pb cb : Nat → Prop} {fa fo fi fu fv : Int → Option Value} {Fo Fi : Int → Int → Option Value} {D : Int → Prop}
theorem AAs.del {a b c : Nat} (h : AAs w1 a b c fa fu fv W) (e : Int) : ∃ (o : Obj), (Builtin.delete_ #[53, 3] 0 #[.map (some a), .int .i64 e]).run Try.prog W = .ok (.tuple #[]) (putObj W a o) ∧ AAs w1 a b c (updV fa e none) fu fv (putObj W a o) := by
  obtain ⟨o, hr, hm⟩ := h.ma.delete (P := Try.prog) (T := 53) Try.underlying53 Try.underlying3 e 0 3
  exact ⟨o, hr, kpt_put h.k (fun _ => .inl rfl) o, hm, MQ.put2 h.mb h.ab.symm o, MQ.put2 h.mc h.ac.symm o, h.ab, h.ac, h.bc⟩
theorem AAs.drew {a b c : Nat} (h : AAs w1 a b c fa fu fv W) : AAs w1 a b c fa fu fv W.drew := ⟨h.k.drew, h.ma, h.mb, h.mc, h.ab, h.ac, h.bc⟩
def delA (arcs : Int → Option (Int × Int)) (e : Int) : Int → Option (Int × Int) := fun x => if x = e then none else arcs x
theorem arF_del {e : Int} : updV (arF arcs) e none = arF (delA arcs e) := by
  funext x
  unfold updV arF delA
  by_cases h : x = e <;> simp [h]
theorem ouF_del {e u : Int} : updV (ouF arcs u) e none = ouF (delA arcs e) u := by
  funext x
  unfold updV ouF delA
  by_cases h : x = e <;> simp [h]
theorem inF_del {e v : Int} : updV (inF arcs v) e none = inF (delA arcs e) v := by
  funext x
  unfold updV inF delA
  by_cases h : x = e <;> simp [h]
theorem ouF_dels {e u v x : Int} (he : arcs e = some (u, v)) (hx : x ≠ u) : ouF (delA arcs e) x = ouF arcs x := by
  funext y
  unfold ouF delA
  by_cases h : y = e
  · subst h
    simp [he, hx.symm]
  · simp [h]
theorem inF_dels {e u v x : Int} (he : arcs e = some (u, v)) (hx : x ≠ v) : inF (delA arcs e) x = inF arcs x := by
  funext y
  unfold inF delA
  by_cases h : y = e
  · subst h
    simp [he, hx.symm]
  · simp [h]
theorem dela_end {e u v : Int} (h : CdS w1 gc ga go gi gp gm lk arcs ob ib cls row val tg pb cb) (hu : cls u ≠ none) (hv : cls v ≠ none) (he : arcs e = some (u, v))
    (hA : AAs w1 ga (ob u) (ib v) (updV (arF arcs) e none) (updV (ouF arcs u) e none) (updV (inF arcs v) e none) W) :
    CdS W gc ga go gi gp gm lk (delA arcs e) ob ib cls row val tg pb cb := by
  rw [arF_del, ouF_del, inF_del] at hA
  have hk := hA.k
  have hcase : ∀ k, (k = ga ∨ k = ob u ∨ k = ib v) → tg k = (0, 0) ∨ tg k = (4, u) ∨ tg k = (5, v) := fun k hk => hk.elim (fun e => .inl (e ▸ h.m.t.a)) fun e => e.elim (fun e => .inr (.inl (e ▸ h.m.t.ob u hu))) fun e => .inr (.inr (e ▸ h.m.t.ib v hv))
  have hcb : ∀ k, (k = ga ∨ k = ob u ∨ k = ib v) → ¬ pb k := fun k hk => hk.elim (fun e => e ▸ h.m.na) fun e => e.elim (fun e => e ▸ h.m.nob u hu) fun e => e ▸ h.m.nib v hv
  have hq : ∀ {k : Nat} {f : Int → Option Value}, MQ w1 k f → (tg k ≠ (0, 0) ∧ tg k ≠ (4, u) ∧ tg k ≠ (5, v)) → MQ W k f := fun hm hn => hm.move (hk.block _ hm.lt fun hh => (hcase _ hh).elim hn.1 fun e => e.elim hn.2.1 hn.2.2)
  have hmq : ∀ {k g : Nat} {cs : List Value} {T : TypeId}, At w1 g cs T → ¬ (g = ga ∨ g = ob u ∨ g = ib v) := fun hg hh => hh.elim (h.m.ha.ne hg) fun hh => hh.elim ((h.m.oo u hu).ne hg) ((h.m.ii v hv).ne hg)
  have hds : ∀ x p, delA arcs e x = some p → arcs x = some p := fun x p hp => by
    unfold delA at hp
    by_cases e1 : x = e
    · rw [if_pos e1] at hp; cases hp
    · rwa [if_neg e1] at hp
  refine ⟨⟨h.m.hc.kept hk (hmq (k := 0) h.m.hc), hA.ma, hq h.m.ho ?_, hq h.m.hi ?_, fun x hx => ?_, fun x hx => ?_, h.m.t, h.m.nc, h.m.na, h.m.no, h.m.ni, h.m.nob, h.m.nib, h.m.cc, h.m.ca, h.m.co, h.m.ci, h.m.cob, h.m.cib, h.m.cp, h.m.cgp, fun k hh => Nat.lt_of_lt_of_le (h.m.lt k hh) hk.size⟩,
    PtS.keep h.p hk (hmq (k := 0) h.p.hp) fun k hp hh => hcb k hh hp, fun x p hp => h.en x p (hds x p hp), ?_⟩
  · rw [h.m.t.o]; simp
  · rw [h.m.t.i]; simp
  · by_cases e1 : x = u
    · subst e1; exact hA.mb
    · rw [ouF_dels he e1]
      exact hq (h.m.oo x hx) (by rw [h.m.t.ob x hx]; simp [e1])
  · by_cases e1 : x = v
    · subst e1; exact hA.mc
    · rw [inF_dels he e1]
      exact hq (h.m.ii x hx) (by rw [h.m.t.ib x hx]; simp [e1])
  · obtain ⟨K, hK, hKa⟩ := h.fin
    refine ⟨K, hK, fun x hx => hKa x fun e1 => ?_⟩
    cases h2 : delA arcs e x with
    | none => exact hx h2
    | some p => rw [hds x p h2] at e1; cases e1
set_option maxHeartbeats 4000000 in
set_option maxRecDepth 100000 in
theorem dela_no (h : CdS w gc ga go gi gp gm lk arcs ob ib cls row val tg pb cb) (e : Int) (he : arcs e = none) :
    Calls Try.prog 14 #[.pointer (some ⟨gc, 0, none⟩), .int .i64 e] w fun e w' => e = .returned (.int .i64 6) ∧ Below w.heap.size w w' := by
  have q0 := h.m.hc.cell 0 rfl
  have l0 := lookE h.m.ha e
  have he2 : arF arcs e = none := by simp [arF, he]
  rw [he2, Option.getD_none, Option.isSome_none] at l0
  clear h he he2
  go_enter Try.func14, Try.ntmps14
  go_wp2
  go_ret
  exact ⟨rfl, (Below.refl w.heap.size w).alloc (Nat.le_refl _) _⟩
def DropP (arcs : Int → Option (Int × Int)) (cls cls' : Int → Option Nat) (u v lk : Int) : Prop :=
  ((u = v ∨ cls u ≠ cls v) ∧ lk = 0 ∧ cls' = cls) ∨ (u ≠ v ∧ cls u = cls v ∧ ∃ vs : List Int, vs.Nodup ∧ (∀ x, x ∈ vs ↔ cls x = cls u) ∧ lk = vs.length ∧ PartP arcs cls cls' vs)

def tb14_5.T5 : Bool × List (List Nat × List Nat) := (true, [([], []), ([0], [0]), ([1], [1]), ([2], [2]), ([], []), ([4], [4]), ([3, 5], [3, 5]), ([], []), ([6, 7], [6, 7])])
def tb14_5.B5 : List Nat := [0, 1, 3, 7, 0, 16, 63, 0, 255]
theorem tb14_5.tab5 : rtab .any (opsOf Try.f14 5) = tb14_5.T5 := by kernel_rfl
theorem tb14_5.bits5 : waitsOk tb14_5.T5.2 tb14_5.B5 = true := by kernel_rfl
def tb14_6.T6 : Bool × List (List Nat × List Nat) := (true, [([], []), ([0], [0]), ([1], [1]), ([2], [2]), ([], []), ([4], [4]), ([3, 5], [3, 5]), ([], []), ([6, 7], [6, 7])])
def tb14_6.B6 : List Nat := [0, 1, 3, 7, 0, 16, 63, 0, 255]
theorem tb14_6.tab6 : rtab .any (opsOf Try.f14 6) = tb14_6.T6 := by kernel_rfl
theorem tb14_6.bits6 : waitsOk tb14_6.T6.2 tb14_6.B6 = true := by kernel_rfl
def tb14_8.T8 : Bool × List (List Nat × List Nat) := (true, [([], []), ([0], [0]), ([], []), ([2], [2]), ([1, 3], [1, 3]), ([4], [4]), ([5], [5]), ([6, 5], [5, 6]), ([7, 5], [5, 7]), ([8, 5], [5, 8]), ([5], [5]), ([10, 5], [5, 10]), ([5], [5]), ([12, 5], [5, 12]), ([9, 11, 13, 5, 5], [5, 9, 11, 13]), ([14, 5], [5, 14]), ([5, 15], [5, 15])])
def tb14_8.B8 : List Nat := [0, 1, 0, 4, 15, 31, 63, 127, 255, 511, 63, 1087, 63, 4159, 16383, 32767, 65535]
theorem tb14_8.tab8 : rtab .any (opsOf Try.f14 8) = tb14_8.T8 := by kernel_rfl
theorem tb14_8.bits8 : waitsOk tb14_8.T8.2 tb14_8.B8 = true := by kernel_rfl
def tb14_10.T10 : Bool × List (List Nat × List Nat) := (true, [([], []), ([], []), ([1], [1]), ([2], [2]), ([3], [3]), ([], []), ([5], [5]), ([4, 6], [4, 6]), ([0, 7, 7], [0, 7])])
def tb14_10.B10 : List Nat := [0, 0, 2, 6, 14, 0, 32, 126, 255]
theorem tb14_10.tab10 : rtab .any (opsOf Try.f14 10) = tb14_10.T10 := by kernel_rfl
theorem tb14_10.bits10 : waitsOk tb14_10.T10.2 tb14_10.B10 = true := by kernel_rfl
set_option maxHeartbeats 16000000 in
set_option maxRecDepth 100000 in
theorem dela_calls (h : CdS w gc ga go gi gp gm lk arcs ob ib cls row val tg pb cb) (V : List Int) (hV : ∀ x, cls x ≠ none → x ∈ V) (hVl : V.length ≤ 500) (e u v : Int) (he : arcs e = some (u, v)) :
    Calls Try.prog 14 #[.pointer (some ⟨gc, 0, none⟩), .int .i64 e] w fun en w' => en = .returned (.int .i64 0) ∧ Kpt cb w w' ∧ ∃ lk' cls' row' val' pb', CdS w' gc ga go gi gp gm lk' (delA arcs e) ob ib cls' row' val' tg pb' (ext cb w w') ∧ DropP (delA arcs e) cls cls' u v lk' := by
  have q0 := h.m.hc.cell 0 rfl
  have l0 := lookE h.m.ha e
  have he2 : arF arcs e = some (.agg #[.int .i64 u, .int .i64 v]) := by simp [arF, he, aV]
  rw [he2, Option.getD_some, Option.isSome_some] at l0
  have hb := ((Below.refl w.heap.size w).alloc (Nat.le_refl _) (.cells #[.int .i64 u, .int .i64 v] 69))
  have hu := (h.en e _ he).1
  have hv := (h.en e _ he).2
  have H0 := Lib.hid (And.intro h (And.intro hu (And.intro hv (And.intro he (And.intro hV hVl)))))
  have HB := Lib.hid hb
  clear h he he2 hu hv hV hVl hb
  go_enter Try.func14, Try.ntmps14
  go_upto_region 4 with (fail)
  refine gen_world (fun W => Below w.heap.size w W ∧ At W w.heap.size [.int .i64 u, .int .i64 v] 69) ⟨HB.out, At.made rfl rfl⟩ ?_
  obtain ⟨g5, hg5⟩ : ∃ g, w.heap.size = g := ⟨_, rfl⟩
  rw [hg5]
  rintro w1 ⟨hb1, hat⟩
  rw [← hg5] at hb1
  clear q0 l0 HB
  obtain ⟨h, hu, hv, he, hV, hVl⟩ := H0.out
  have h1 := h.below hb1
  obtain ⟨bu, hbu⟩ : ∃ bu, ob u = bu := ⟨_, rfl⟩
  obtain ⟨bv, hbv⟩ : ∃ bv, ib v = bv := ⟨_, rfl⟩
  have hF : ∀ W, Kpt (fun k => k = ga ∨ k = bu ∨ k = bv) w1 W → At W gc [.map (some ga), .map (some go), .map (some gi), .pointer (some ⟨gp, 0, none⟩), .int .i64 lk] 58 ∧ At W g5 [.int .i64 u, .int .i64 v] 69 ∧
      (Instr.lookup 54 (.map (some go)) (.int .i64 u) false).run Try.prog W = .ok (.map (some bu)) W ∧ (Instr.lookup 54 (.map (some gi)) (.int .i64 v) false).run Try.prog W = .ok (.map (some bv)) W := fun W hk => by
    subst hbu hbv
    have hmq : ∀ {g : Nat} {cs : List Value} {T : TypeId}, At w1 g cs T → ¬ (g = ga ∨ g = ob u ∨ g = ib v) := fun hg hh => hh.elim (h1.m.ha.ne hg) fun hh => hh.elim ((h1.m.oo u hu).ne hg) ((h1.m.ii v hv).ne hg)
    have hno : ∀ {k : Nat}, (tg k ≠ (0, 0) ∧ tg k ≠ (4, u) ∧ tg k ≠ (5, v)) → ¬ (k = ga ∨ k = ob u ∨ k = ib v) := fun hn hh => hh.elim (fun e => hn.1 (e ▸ h1.m.t.a)) fun hh => hh.elim (fun e => hn.2.1 (e ▸ h1.m.t.ob u hu)) fun e => hn.2.2 (e ▸ h1.m.t.ib v hv)
    have lu := lookV (h1.m.ho.move (hk.block _ h1.m.ho.lt (hno (by rw [h1.m.t.o]; simp)))) u
    have lv := lookV (h1.m.hi.move (hk.block _ h1.m.hi.lt (hno (by rw [h1.m.t.i]; simp)))) v
    rw [vtF_some hu, Option.getD_some] at lu
    rw [vtF_some hv, Option.getD_some] at lv
    exact ⟨h1.m.hc.kept hk (hmq h1.m.hc), hat.kept hk (hmq hat), lu, lv⟩
  have hA : AAs w1 ga bu bv (arF arcs) (ouF arcs u) (inF arcs v) w1 := by
    subst hbu hbv
    exact ⟨Kpt.refl _ _, h1.m.ha, h1.m.oo u hu, h1.m.ii v hv, tgne h.m.t.a (h.m.t.ob u hu) (by simp), tgne h.m.t.a (h.m.t.ib v hv) (by simp), tgne (h.m.t.ob u hu) (h.m.t.ib v hv) (by simp)⟩
  have q0 := h1.m.hc.cell 0 rfl
  obtain ⟨o1, hd1, hA1⟩ := hA.del e
  have HF := Lib.hid hF
  have HA := Lib.hid hA1
  have H1 := Lib.hid (And.intro h1 (And.intro hb1 (And.intro hbu hbv)))
  clear h hu hv he hV hVl h1 hb1 hat hbu hbv hF hA hA1 hg5
  go_upto_region 5 with (fail)
  clear q0 hd1
  obtain ⟨Wa, hWa⟩ : ∃ Wa, putObj w1 ga o1 = Wa := ⟨_, rfl⟩
  rw [hWa] at HA ⊢
  clear hWa
  obtain ⟨c1, c2, l1, -⟩ := HF.out Wa.drew HA.out.k.drew
  have q1 := c1.cell 1 rfl
  have a0 := c2.cell 0 rfl
  obtain ⟨o2, hd2, hA2⟩ := HA.out.drew.rot.del e
  clear c1 c2
  refine start_ (n := 9) (S := fun w' => w'.cell? ⟨gc, 1, none⟩ = some (.map (some go)) ∧ w'.cell? ⟨g5, 0, none⟩ = some (.int .i64 u) ∧ (Instr.lookup 54 (.map (some go)) (.int .i64 u) false).run Try.prog w' = .ok (.map (some bu)) w') (ds := [8]) (bA 9 0) (by kernel_rfl) rfl rfl ⟨q1, a0, l1⟩ (fun hHeld => ?_)
  refine with_tabW tb14_5.tab5 tb14_5.bits5 (fun HT_ HW_ => ?_)
  refine pw_ 0 23 (bA 9 1) HT_.out ?_
  refine pw_ 1 24 (bA 9 3) HT_.out ?_
  refine pw_ 2 25 (bA 9 7) HT_.out ?_
  refine pw_ 4 27 (bA 9 23) HT_.out ?_
  refine pw_ 7 30 (bA 9 151) HT_.out ?_
  refine tw_ 3 26 (bA 9 159) HT_.out HW_.out hHeld (hv := by rintro w' ⟨s0, s1, s2⟩; go_simp; with_reducible rfl) (h := ?_)
  refine tw_ 5 28 (bA 9 191) HT_.out HW_.out hHeld (hv := by rintro w' ⟨s0, s1, s2⟩; go_simp; with_reducible rfl) (h := ?_)
  refine tw_ 6 29 (bA 9 255) HT_.out HW_.out hHeld (hv := by rintro w' ⟨s0, s1, s2⟩; go_simp; with_reducible rfl) (h := ?_)
  refine last_ (i := 8) (N := none) (bA 9 511) rfl rfl (one_of HT_.out (by kernel_rfl)) (by decide) (fun K hK => ?_)
  refine value_ (w1 := ?_) (v := ?_) (by rfl) rfl ?_ ?_
  rotate_left 2
  · go_simp
    constructor
    · rfl
    · rfl
  refine hK.out _ _ ?_; clear hK K
  refine done_ (done_of HT_.out (by kernel_rfl)) ?_
  clear hHeld HT_ HW_; clear q1 a0 l1 hd2 HA
  have HA := Lib.hid hA2.rot.rot
  clear hA2
  go_upto_region 6 with (fail)
  obtain ⟨Wb, hWb⟩ : ∃ Wb, putObj Wa.drew bu o2 = Wb := ⟨_, rfl⟩
  rw [hWb] at HA ⊢
  clear hWb
  obtain ⟨c1, c2, -, l1⟩ := HF.out Wb.drew HA.out.k.drew
  have q1 := c1.cell 2 rfl
  have a0 := c2.cell 1 rfl
  obtain ⟨o3, hd2, hA2⟩ := HA.out.drew.rot.rot.del e
  clear c1 c2
  refine start_ (n := 9) (S := fun w' => w'.cell? ⟨gc, 2, none⟩ = some (.map (some gi)) ∧ w'.cell? ⟨g5, 1, none⟩ = some (.int .i64 v) ∧ (Instr.lookup 54 (.map (some gi)) (.int .i64 v) false).run Try.prog w' = .ok (.map (some bv)) w') (ds := [8]) (bA 9 0) (by kernel_rfl) rfl rfl ⟨q1, a0, l1⟩ (fun hHeld => ?_)
  refine with_tabW tb14_6.tab6 tb14_6.bits6 (fun HT_ HW_ => ?_)
  refine pw_ 0 31 (bA 9 1) HT_.out ?_
  refine pw_ 1 32 (bA 9 3) HT_.out ?_
  refine pw_ 2 33 (bA 9 7) HT_.out ?_
  refine pw_ 4 35 (bA 9 23) HT_.out ?_
  refine pw_ 7 38 (bA 9 151) HT_.out ?_
  refine tw_ 3 34 (bA 9 159) HT_.out HW_.out hHeld (hv := by rintro w' ⟨s0, s1, s2⟩; go_simp; with_reducible rfl) (h := ?_)
  refine tw_ 5 36 (bA 9 191) HT_.out HW_.out hHeld (hv := by rintro w' ⟨s0, s1, s2⟩; go_simp; with_reducible rfl) (h := ?_)
  refine tw_ 6 37 (bA 9 255) HT_.out HW_.out hHeld (hv := by rintro w' ⟨s0, s1, s2⟩; go_simp; with_reducible rfl) (h := ?_)
  refine last_ (i := 8) (N := none) (bA 9 511) rfl rfl (one_of HT_.out (by kernel_rfl)) (by decide) (fun K hK => ?_)
  refine value_ (w1 := ?_) (v := ?_) (by rfl) rfl ?_ ?_
  rotate_left 2
  · go_simp
    constructor
    · rfl
    · rfl
  refine hK.out _ _ ?_; clear hK K
  refine done_ (done_of HT_.out (by kernel_rfl)) ?_
  clear hHeld HT_ HW_; clear q1 a0 l1 hd2 HA
  have HA := Lib.hid hA2.rot
  clear hA2
  go_upto_region 7 with (fail)
  obtain ⟨Wc, hWc⟩ : ∃ Wc, putObj Wb.drew bv o3 = Wc := ⟨_, rfl⟩
  rw [hWc] at HA ⊢
  clear hWc
  obtain ⟨c1, c2, -, -⟩ := HF.out Wc HA.out.k
  obtain ⟨h1, hb1, hbu, hbv⟩ := H1.out
  obtain ⟨h, hu, hv, he, hV, hVl⟩ := H0.out
  subst hbu hbv
  have hk1 : Kpt cb w Wc := (Kpt.of_below (p := cb) hb1).trans (HA.out.k.mono fun k _ e => e.elim (fun e => e ▸ h.m.ca) fun e => e.elim (fun e => e ▸ h.m.cob u hu) fun e => e ▸ h.m.cib v hv)
  have h2 := dela_end h1 hu hv he HA.out
  have h3 := h2.look 0
  have hk3 : Kpt cb w (Wc.setCell ⟨gc, 4, none⟩ (.int .i64 0)) := hk1.set (fun _ => h.m.cc) _
  have c4 := h2.m.hc.cell 4 rfl
  have f4 := h2.m.hc.free 4
  have hat := c2.off (i := 4) (u := .int .i64 0) (c2.ne h2.m.hc (by decide))
  have H3 := Lib.hid (And.intro h3 (And.intro hk3 hat))
  clear h1 hb1 h hu hv he hV hVl hk1 h2 h3 hk3 hat c1 c2 HA HF H1
  go_upto_region 8 with (fail)
  clear c4 f4
  obtain ⟨Wd, hWd⟩ : ∃ Wd, Wc.setCell ⟨gc, 4, none⟩ (.int .i64 0) = Wd := ⟨_, rfl⟩
  rw [hWd] at H3 ⊢
  clear hWd
  obtain ⟨h3, hk3, hat⟩ := H3.out
  have a0 := hat.cell 0 rfl
  have a1 := hat.cell 1 rfl
  have q3 := h3.m.hc.cell 3 rfl
  by_cases huv : u = v
  · subst huv
    have HE := Lib.hid (show Kpt cb w Wd.drew ∧ CdS Wd.drew gc ga go gi gp gm 0 (delA arcs e) ob ib cls row val tg pb (ext cb w Wd.drew) ∧ DropP (delA arcs e) cls cls u u 0 from ⟨hk3.drew, (h3.below (Below.refl _ _).drew).grow w, .inl ⟨.inl rfl, rfl, rfl⟩⟩)
    clear h3 hk3 hat H3 q3
    refine start_ (n := 17) (S := fun w' => w'.cell? ⟨g5, 0, none⟩ = some (.int .i64 u) ∧ w'.cell? ⟨g5, 1, none⟩ = some (.int .i64 u)) (ds := []) (bA 17 0) (by kernel_rfl) rfl rfl ⟨a0, a1⟩ (fun hHeld => ?_)
    refine with_tabW tb14_8.tab8 tb14_8.bits8 (fun HT_ HW_ => ?_)
    refine pw_ 0 42 (bA 17 1) HT_.out ?_
    refine pw_ 2 44 (bA 17 5) HT_.out ?_
    refine tw_ 1 43 (bA 17 7) HT_.out HW_.out hHeld (hv := by rintro w' ⟨s0, s1⟩; go_simp; with_reducible rfl) (h := ?_)
    refine tw_ 3 45 (bA 17 15) HT_.out HW_.out hHeld (hv := by rintro w' ⟨s0, s1⟩; go_simp; with_reducible rfl) (h := ?_)
    refine pw_ 4 46 (bA 17 31) HT_.out ?_
    refine pw_ 5 47 (bA 17 63) HT_.out ?_
    refine pu_ 6 48 (bA 17 127) HT_.out ?_
    refine pu_ 7 49 (bA 17 255) HT_.out ?_
    refine pu_ 8 50 (bA 17 511) HT_.out ?_
    refine pu_ 9 51 (bA 17 1023) HT_.out ?_
    refine pu_ 10 52 (bA 17 2047) HT_.out ?_
    refine pu_ 11 53 (bA 17 4095) HT_.out ?_
    refine pu_ 12 54 (bA 17 8191) HT_.out ?_
    refine pu_ 13 55 (bA 17 16383) HT_.out ?_
    refine pu_ 14 56 (bA 17 32767) HT_.out ?_
    refine pu_ 15 57 (bA 17 65535) HT_.out ?_
    refine pw_ 16 58 (bA 17 131071) HT_.out ?_
    refine done_ (done_of HT_.out (by kernel_rfl)) ?_
    clear hHeld HT_ HW_
    go_wp2
    go_ret
    exact ⟨rfl, HE.out.1, 0, cls, ⟨row, val, pb, HE.out.2.1⟩, HE.out.2.2⟩
  · have h3d := h3.below (w' := Wd.drew) (Below.refl _ _).drew
    have heqb : (u == v) = false := by simp [huv]
    obtain ⟨sb, hsb⟩ : ∃ sb, sameV cls u v = sb := ⟨_, rfl⟩
    have HC := Lib.hid (same_calls h3d.p u v)
    rw [show decide (cls u ≠ none ∧ cls u = cls v) = sb from hsb] at HC
    have H4 := Lib.hid (And.intro h3d (And.intro hk3 (And.intro hat hsb)))
    clear h3d h3 hk3 hat hsb H3
    refine start_ (n := 17) (S := fun w' => w'.cell? ⟨g5, 0, none⟩ = some (.int .i64 u) ∧ w'.cell? ⟨g5, 1, none⟩ = some (.int .i64 v) ∧ w'.cell? ⟨gc, 3, none⟩ = some (.pointer (some ⟨gp, 0, none⟩))) (ds := [14]) (bA 17 0) (by kernel_rfl) rfl rfl ⟨a0, a1, q3⟩ (fun hHeld => ?_)
    refine with_tabW tb14_8.tab8 tb14_8.bits8 (fun HT_ HW_ => ?_)
    refine pw_ 0 42 (bA 17 1) HT_.out ?_
    refine pw_ 2 44 (bA 17 5) HT_.out ?_
    refine tw_ 1 43 (bA 17 7) HT_.out HW_.out hHeld (hv := by rintro w' ⟨s0, s1, s2⟩; go_simp; with_reducible rfl) (h := ?_)
    refine tw_ 3 45 (bA 17 15) HT_.out HW_.out hHeld (hv := by rintro w' ⟨s0, s1, s2⟩; go_simp; with_reducible rfl) (h := ?_)
    refine pw_ 4 46 (bA 17 31) HT_.out ?_
    refine pw_ 5 47 (bA 17 63) HT_.out ?_
    refine pw_ 6 48 (bA 17 127) HT_.out ?_
    refine pw_ 7 49 (bA 17 255) HT_.out ?_
    refine pw_ 8 50 (bA 17 511) HT_.out ?_
    refine pw_ 10 52 (bA 17 1535) HT_.out ?_
    refine pw_ 12 54 (bA 17 5631) HT_.out ?_
    refine tw_ 9 51 (bA 17 6143) HT_.out HW_.out hHeld (hv := by rintro w' ⟨s0, s1, s2⟩; go_simp; with_reducible rfl) (h := ?_)
    refine tw_ 11 53 (bA 17 8191) HT_.out HW_.out hHeld (hv := by rintro w' ⟨s0, s1, s2⟩; go_simp; with_reducible rfl) (h := ?_)
    refine tw_ 13 55 (bA 17 16383) HT_.out HW_.out hHeld (hv := by rintro w' ⟨s0, s1, s2⟩; go_simp; with_reducible rfl) (h := ?_)
    refine last_ (i := 14) (N := some 56) (bA 17 32767) rfl rfl (one_of HT_.out (by kernel_rfl)) (by decide) (fun K hK => ?_)
    refine gw_ Try.func22 #[.pointer (some ⟨gp, 0, none⟩), .int .i64 u, .int .i64 v] ?_
    with_reducible refine (HC.out).mono ?_
    rintro e wS ⟨rfl, hbS⟩
    refine ⟨_, rfl, ?_⟩
    refine hK.out _ _ ?_; clear hK K
    refine norm_ (a' := ?_) ?_ ?_
    rotate_left
    · show Act.put _ (some 56) _ = _
      simp only [Act.put, pA, pB, pC, pD, pE]; rfl
    refine pw_ 15 57 (bA 17 65535) HT_.out ?_
    refine pw_ 16 58 (bA 17 131071) HT_.out ?_
    refine done_ (done_of HT_.out (by kernel_rfl)) ?_
    clear hHeld HT_ HW_
    obtain ⟨h3d, hk3, hat, hsb⟩ := H4.out
    have h4 := h3d.below hbS
    have hk4 : Kpt cb w wS := hk3.drew.below hbS
    have hat4 : At wS g5 _ _ := hat.drew.below hbS hat.lt
    clear h3d hk3 hat hbS H4 HC q3 a0 a1
    cases sb with
    | false =>
      have hne : cls u ≠ cls v := fun e => (of_decide_eq_false hsb) ⟨H0.out.2.1, e⟩
      have HE := Lib.hid (show Kpt cb w wS ∧ CdS wS gc ga go gi gp gm 0 (delA arcs e) ob ib cls row val tg pb (ext cb w wS) ∧ DropP (delA arcs e) cls cls u v 0 from ⟨hk4, h4.grow w, .inl ⟨.inr hne, rfl, rfl⟩⟩)
      clear h4 hk4 hat4 hne hsb
      go_wp2
      go_ret
      exact ⟨rfl, HE.out.1, 0, cls, ⟨row, val, pb, HE.out.2.1⟩, HE.out.2.2⟩
    | true =>
      have heq : cls u = cls v := (of_decide_eq_true hsb).2
      obtain ⟨bu0, hbu0⟩ : ∃ b, cls u = some b := Option.ne_none_iff_exists'.1 H0.out.2.1
      have hV := H0.out.2.2.2.2.1
      have hVl := H0.out.2.2.2.2.2
      have h5 := h4.below (w' := wS.drew) (Below.refl _ _).drew
      obtain ⟨vs, hvs⟩ : ∃ vs, mems cls row u = vs := ⟨_, rfl⟩
      have HC := Lib.hid (members_calls h5.p u fun v b hv => Nat.le_trans (h5.rowle hV v b hv) (by omega))
      rw [hvs] at HC
      have hms : mems cls row u = sorted (row bu0) := by unfold mems; rw [hbu0]
      have hmem : ∀ x, x ∈ vs ↔ cls x = some bu0 := fun x => by rw [← hvs, hms]; exact List.mem_mergeSort.trans (h5.p.r.mem u bu0 hbu0 x)
      have hnd : vs.Nodup := by rw [← hvs, hms]; exact (List.mergeSort_perm _ _).nodup_iff.2 (h5.p.r.nd u bu0 hbu0)
      have HC1 := Lib.hid (fun (wM : World) (Am : Option Addr) (cm : Nat) (ho : wM.ownsRow wS.drew.heap.size 3 1 (.slice Am vs.length cm) vs.length (ints vs)) (hb : Below wS.drew.heap.size wS.drew wM) =>
        part_calls (h5.below hb) V hV hVl ⟨Int.le_refl _, by decide⟩ vs Am cm (RdI.of_own ho).1 (fun b e e2 => by
          subst e
          have h1 := (ho.lt b rfl).1
          have h2 := h5.m.lt b e2
          omega) hnd hbu0 hmem)
      have q3 := h4.m.hc.cell 3 rfl
      have a0 := hat4.cell 0 rfl
      have HE := Lib.hid (And.intro hk4 (And.intro heq (And.intro hnd (And.intro hmem hbu0))))
      clear h4 hk4 hat4 hsb heq hbu0 hV hVl h5 hvs hms hmem hnd
      go_upto_region 10 with (fail)
      refine start_ (n := 9) (S := fun w' => w'.cell? ⟨gc, 3, none⟩ = some (.pointer (some ⟨gp, 0, none⟩)) ∧ w'.cell? ⟨g5, 0, none⟩ = some (.int .i64 u)) (ds := [7, 8]) (bA 9 0) (by kernel_rfl) rfl rfl ⟨q3, a0⟩ (fun hHeld => ?_)
      refine with_tabW tb14_10.tab10 tb14_10.bits10 (fun HT_ HW_ => ?_)
      refine pw_ 0 59 (bA 9 1) HT_.out ?_
      refine pw_ 1 60 (bA 9 3) HT_.out ?_
      refine pw_ 2 61 (bA 9 7) HT_.out ?_
      refine pw_ 3 62 (bA 9 15) HT_.out ?_
      refine pw_ 5 64 (bA 9 47) HT_.out ?_
      refine tw_ 4 63 (bA 9 63) HT_.out HW_.out hHeld (hv := by rintro w' ⟨s0, s1⟩; go_simp; with_reducible rfl) (h := ?_)
      refine tw_ 6 65 (bA 9 127) HT_.out HW_.out hHeld (hv := by rintro w' ⟨s0, s1⟩; go_simp; with_reducible rfl) (h := ?_)
      refine last_ (i := 7) (N := some 66) (bA 9 255) rfl rfl (one_of HT_.out (by kernel_rfl)) (by decide) (fun K hK => ?_)
      refine gw_ Try.func21 #[.pointer (some ⟨gp, 0, none⟩), .int .i64 u] ?_
      with_reducible refine (HC.out).mono ?_
      rintro e wM ⟨um, rfl, hoM, hbM⟩
      refine ⟨_, rfl, ?_⟩
      obtain ⟨Am, cm, rfl⟩ := Lw.own_slice hoM
      have HC2 := Lib.hid (HC1.out wM Am cm hoM hbM)
      refine hK.out _ _ ?_; clear hK K
      refine norm_ (a' := ?_) ?_ ?_
      rotate_left
      · show Act.put _ (some 66) _ = _
        simp only [Act.put, pA, pB, pC, pD, pE]; rfl
      refine last_ (i := 8) (N := some 67) (bA 9 511) rfl rfl (one_of HT_.out (by kernel_rfl)) (by decide) (fun K hK => ?_)
      refine gw_ Try.func37 #[.pointer (some ⟨gc, 0, none⟩), .slice Am vs.length cm] ?_
      with_reducible refine (HC2.out).mono ?_
      rintro e wP ⟨rfl, hkP, hP⟩
      refine ⟨_, rfl, ?_⟩
      refine hK.out _ _ ?_; clear hK K
      refine norm_ (a' := ?_) ?_ ?_
      rotate_left
      · show Act.put _ (some 67) _ = _
        simp only [Act.put, pA, pB, pC, pD, pE]; rfl
      refine done_ (done_of HT_.out (by kernel_rfl)) ?_
      clear hHeld HT_ HW_
      go_wp2
      go_ret
      obtain ⟨hk4, heq, hnd, hmem, hbu0⟩ := HE.out
      obtain ⟨c', row', val', pb', hC, hPP⟩ := hP
      have hkM : Kpt cb w wM := hk4.drew.below hbM
      have hkF : Kpt cb w wP := hkM.trans hkP
      have hCm := hC.mono (cb' := ext cb w wP) (fun k hk => hk.imp id fun e => ⟨Nat.le_trans hkM.size e.1, e.2⟩) fun k hk => hk.elim (fun e => Nat.lt_of_lt_of_le (H0.out.1.m.lt k e) hkF.size) fun e => e.2
      have hD : DropP (delA arcs e) cls c' u v (0 + vs.length) := .inr ⟨huv, heq, vs, hnd, fun x => by rw [hbu0]; exact hmem x, Int.zero_add _, hPP⟩
      exact ⟨rfl, hkF, _, c', ⟨row', val', pb', hCm⟩, hD⟩
end
end Go.Proofs.Ythomnpgpbhpojaa.Cd

/- Plain: the parts are the classes of mutual reach, kept by each edit. -/
namespace Go.Proofs.Ythomnpgpbhpojaa.Cd
open Go.Proofs.Ythomnpgpbhpojaa.Sl Go.Proofs.Ythomnpgpbhpojaa.Lw Go.Proofs.Ythomnpgpbhpojaa.Pt
set_option linter.unusedVariables false

section
variable {arcs arcs' : Int → Option (Int × Int)} {cls cls' : Int → Option Nat} {R R' : Int → Int → Prop} {u v e lk : Int}
def Ra (arcs : Int → Option (Int × Int)) (a b : Int) : Prop := ∃ e, arcs e = some (a, b)
theorem Cl.trans {a b c : Int} (h : Cl R a b) (k : Cl R b c) : Cl R a c := by
  induction k with
  | base => exact h
  | step _ he ih => exact .step ih he
theorem Cl.mono {a b : Int} (h : Cl R a b) (hR : ∀ x y, R x y → R' x y) : Cl R' a b := by
  induction h with
  | base => exact .base
  | step _ he ih => exact .step ih (hR _ _ he)
theorem Cl.head {a b c : Int} (h : R a b) (k : Cl R b c) : Cl R a c := (Cl.step .base h).trans k
def Mut (R : Int → Int → Prop) (x y : Int) : Prop := Cl R x y ∧ Cl R y x
def PI (R : Int → Int → Prop) (cls : Int → Option Nat) : Prop := ∀ x y, cls x ≠ none → cls y ≠ none → (cls x = cls y ↔ Mut R x y)
def More (R R' : Int → Int → Prop) (u v : Int) : Prop := ∀ a b, R' a b ↔ R a b ∨ (a = u ∧ b = v)
theorem More.cl (h : More R R' u v) {x y : Int} : Cl R' x y ↔ Cl R x y ∨ (Cl R x u ∧ Cl R v y) := by
  constructor
  · intro hc
    induction hc with
    | base => exact .inl .base
    | step _ he ih =>
      rcases (h _ _).1 he with he | ⟨rfl, rfl⟩
      · rcases ih with ih | ⟨i1, i2⟩
        · exact .inl (.step ih he)
        · exact .inr ⟨i1, .step i2 he⟩
      · rcases ih with ih | ⟨i1, i2⟩
        · exact .inr ⟨ih, .base⟩
        · exact .inr ⟨i1, .base⟩
  · have hm : ∀ a b, R a b → R' a b := fun a b hh => (h a b).2 (.inl hh)
    rintro (hc | ⟨h1, h2⟩)
    · exact hc.mono hm
    · exact (Cl.step (h1.mono hm) ((h u v).2 (.inr ⟨rfl, rfl⟩))).trans (h2.mono hm)
theorem More.up (h : More R R' u v) {x y : Int} (hc : Cl R x y) : Cl R' x y := h.cl.2 (.inl hc)
theorem More.same (h : More R R' u v) (h1 : Cl R u v) {x y : Int} : Cl R' x y ↔ Cl R x y :=
  ⟨fun hc => (h.cl.1 hc).elim id fun ⟨a, b⟩ => (a.trans h1).trans b, h.up⟩
theorem More.mut_no (h : More R R' u v) (h1 : ¬ Cl R v u) {x y : Int} : Mut R' x y ↔ Mut R x y := by
  constructor
  · rintro ⟨a, b⟩
    rcases h.cl.1 a with a | ⟨a1, a2⟩ <;> rcases h.cl.1 b with b | ⟨b1, b2⟩
    · exact ⟨a, b⟩
    · exact absurd ((b2.trans a).trans b1) h1
    · exact absurd ((a2.trans b).trans a1) h1
    · exact absurd (a2.trans b1) h1
  · rintro ⟨a, b⟩
    exact ⟨h.up a, h.up b⟩
theorem more_add (he : arcs e = none) : More (Ra arcs) (Ra (addA arcs e u v)) u v := fun a b => by
  unfold Ra addA
  constructor
  · rintro ⟨x, hx⟩
    by_cases h : x = e
    · rw [if_pos h] at hx
      cases hx
      exact .inr ⟨rfl, rfl⟩
    · rw [if_neg h] at hx
      exact .inl ⟨x, hx⟩
  · rintro (⟨x, hx⟩ | ⟨rfl, rfl⟩)
    · refine ⟨x, ?_⟩
      rw [if_neg fun h => by rw [h, he] at hx; cases hx]
      exact hx
    · exact ⟨e, if_pos rfl⟩
theorem del_add (he : arcs e = some (u, v)) : addA (delA arcs e) e u v = arcs := by
  funext x
  unfold addA delA
  by_cases h : x = e
  · rw [if_pos h, h, he]
  · rw [if_neg h, if_neg h]
theorem more_del (he : arcs e = some (u, v)) : More (Ra (delA arcs e)) (Ra arcs) u v := by
  have := more_add (arcs := delA arcs e) (e := e) (u := u) (v := v) (if_pos rfl)
  rwa [del_add he] at this
theorem PI.newv (h : PI (Ra arcs) cls) (hn : NewV cls cls' v) (hv : cls v = none) (en : ∀ e p, arcs e = some p → cls p.1 ≠ none ∧ cls p.2 ≠ none) : PI (Ra arcs) cls' := by
  obtain ⟨h1, b, h2, h3⟩ := hn
  have hout : ∀ y, Cl (Ra arcs) v y → y = v := fun y hy => by
    induction hy with
    | base => rfl
    | step _ he ih =>
      obtain ⟨x, hx⟩ := he
      subst ih
      exact absurd hv (en x _ hx).1
  have hin : ∀ y, Cl (Ra arcs) y v → y = v := fun y hy => by
    generalize hz : v = z at hy
    cases hy with
    | base => rfl
    | step _ he =>
      obtain ⟨x, hx⟩ := he
      subst hz
      exact absurd hv (en x _ hx).2
  intro x y hx hy
  by_cases ex : x = v <;> by_cases ey : y = v
  · subst ex ey
    exact ⟨fun _ => ⟨.base, .base⟩, fun _ => rfl⟩
  · subst ex
    constructor
    · intro e
      rw [h2, h1 y ey] at e
      exact absurd e.symm (h3 y ey)
    · intro e
      exact absurd (hout y e.1) ey
  · subst ey
    constructor
    · intro e
      rw [h2, h1 x ex] at e
      exact absurd e (h3 x ex)
    · intro e
      exact absurd (hout x e.2) ex
  · rw [h1 x ex, h1 y ey]
    rw [h1 x ex] at hx
    rw [h1 y ey] at hy
    exact h x y hx hy
theorem PI.drop (h : PI R cls) : PI R (fun x => if x = v then none else cls x) := fun x y hx hy => by
  by_cases ex : x = v
  · exact absurd (if_pos ex) hx
  · by_cases ey : y = v
    · exact absurd (if_pos ey) hy
    · simp only [if_neg ex, if_neg ey] at hx hy ⊢
      exact h x y hx hy
theorem PI.congr (h : PI R cls) (hR : ∀ x y, Mut R' x y ↔ Mut R x y) : PI R' cls := fun x y hx hy => (h x y hx hy).trans (hR x y).symm
theorem PI.add (h : PI (Ra arcs) cls) (he : arcs e = none) (hu : cls u ≠ none) (hv : cls v ≠ none) (hP : AddP (addA arcs e u v) cls cls' u v lk) : PI (Ra (addA arcs e u v)) cls' := by
  have hM := more_add (u := u) (v := v) he
  rcases hP with ⟨h1, _, rfl⟩ | ⟨h1, S, _, hS, ⟨h2, _, rfl⟩ | ⟨h2, T, _, hT, _, hJ⟩⟩
  · have := (h u v hu hv).1 h1
    exact h.congr fun x y => by unfold Mut; rw [hM.same this.1, hM.same this.1]
  · have hn : ¬ Cl (Ra arcs) v u := fun e => h2 ((hS u).2 (hM.up e))
    exact h.congr fun x y => hM.mut_no hn
  · have huv : Ra (addA arcs e u v) u v := (hM u v).2 (.inr ⟨rfl, rfl⟩)
    have hvu : Cl (Ra (addA arcs e u v)) v u := (hS u).1 h2
    have hTi : ∀ x, x ∈ T ↔ Cl (Ra (addA arcs e u v)) v x ∧ Cl (Ra (addA arcs e u v)) x u := fun x => by
      rw [hT x]
      constructor
      · intro hc
        induction hc with
        | base => exact ⟨hvu, .base⟩
        | step _ he ih => exact ⟨(hS _).1 he.2, .head he.1 ih.2⟩
      · rintro ⟨h1, h2⟩
        have key : ∀ y, Cl (Ra (addA arcs e u v)) x y → Cl (fun x y => (∃ e', addA arcs e u v e' = some (y, x)) ∧ y ∈ S) u y → Cl (fun x y => (∃ e', addA arcs e u v e' = some (y, x)) ∧ y ∈ S) u x := fun y hy => by
          induction hy with
          | base => exact id
          | step hc he ih => exact fun hk => ih (.step hk ⟨he, (hS _).2 (h1.trans hc)⟩)
        exact key u h2 .base
    have hcT : ∀ x, cls x ≠ none → ((∃ w ∈ T, cls x = cls w) ↔ x ∈ T) := fun x hx => by
      constructor
      · rintro ⟨w, hw, e1⟩
        have hm := (h x w hx (e1 ▸ hx)).1 e1
        have := (hTi w).1 hw
        exact (hTi x).2 ⟨this.1.trans (hM.up hm.2), (hM.up hm.1).trans this.2⟩
      · intro hx
        exact ⟨x, hx, rfl⟩
    intro x y hx hy
    have hx' : cls x ≠ none := fun e => hx ((hJ.1 x).2 e)
    have hy' : cls y ≠ none := fun e => hy ((hJ.1 y).2 e)
    rw [hJ.2 x y hx' hy', hcT x hx', hcT y hy', h x y hx' hy', hTi x, hTi y]
    constructor
    · rintro (⟨a, b⟩ | ⟨⟨a, b⟩, c, d⟩)
      · exact ⟨hM.up a, hM.up b⟩
      · exact ⟨(Cl.step b huv).trans c, (Cl.step d huv).trans a⟩
    · rintro ⟨a, b⟩
      rcases hM.cl.1 a with a1 | ⟨a1, a2⟩
      · rcases hM.cl.1 b with b1 | ⟨b1, b2⟩
        · exact .inl ⟨a1, b1⟩
        · have b1 := hM.up b1
          have b2 := hM.up b2
          exact .inr ⟨⟨b2, a.trans b1⟩, b2.trans a, b1⟩
      · have a1 := hM.up a1
        have a2 := hM.up a2
        exact .inr ⟨⟨a2.trans b, a1⟩, a2, b.trans a1⟩
theorem PI.del (h : PI (Ra arcs) cls) (he : arcs e = some (u, v)) (en : ∀ e p, arcs e = some p → cls p.1 ≠ none ∧ cls p.2 ≠ none) (hP : DropP (delA arcs e) cls cls' u v lk) : PI (Ra (delA arcs e)) cls' := by
  have hM := more_del he
  have hu := (en e _ he).1
  have hv := (en e _ he).2
  have huv : Cl (Ra arcs) u v := .step .base ⟨e, he⟩
  rcases hP with ⟨h1, _, rfl⟩ | ⟨h1, h2, vs, _, hvs, _, hP⟩
  · rcases h1 with rfl | h1
    · exact h.congr fun x y => by unfold Mut; rw [hM.same .base, hM.same .base]
    · have hn : ¬ Cl (Ra (delA arcs e)) v u := fun hc => h1 ((h u v hu hv).2 ⟨huv, hM.up hc⟩)
      exact h.congr fun x y => (hM.mut_no hn).symm
  · have hcn : ∀ x y, cls x ≠ none → Cl (Ra arcs) x y → cls y ≠ none := fun x y hx hc => by
      cases hc with
      | base => exact hx
      | step _ hr => obtain ⟨e', hr⟩ := hr; exact (en e' _ hr).2
    intro x y hx hy
    have hx' : cls x ≠ none := fun e => hx ((hP.1 x).2 e)
    have hy' : cls y ≠ none := fun e => hy ((hP.1 y).2 e)
    rw [hP.2 x y hx' hy']
    have hN : ∀ a b, (a ∈ vs ∧ cls a = cls b ∧ ∃ e', delA arcs e e' = some (a, b)) → Ra (delA arcs e) a b := fun a b hh => hh.2.2
    have hin : ∀ x, x ∈ vs → cls x ≠ none → ∀ z, Cl (Ra (delA arcs e)) x z → Cl (Ra (delA arcs e)) z x → Cl (fun a b => a ∈ vs ∧ cls a = cls b ∧ ∃ e', delA arcs e e' = some (a, b)) x z := fun x hxv hxn z hz => by
      induction hz with
      | base => exact fun _ => .base
      | @step a b hc he ih =>
        intro hk
        have hax : Cl (Ra (delA arcs e)) a x := .head he hk
        have hxb : Cl (Ra (delA arcs e)) x b := .step hc he
        have ea := (h x a hxn (hcn x a hxn (hM.up hc))).2 ⟨hM.up hc, hM.up hax⟩
        have eb := (h x b hxn (hcn x b hxn (hM.up hxb))).2 ⟨hM.up hxb, hM.up hk⟩
        exact .step (ih hax) ⟨(hvs a).2 (ea.symm.trans ((hvs x).1 hxv)), ea.symm.trans eb, he⟩
    constructor
    · rintro (⟨h3, h4, h5⟩ | ⟨h3, h4, h5, h6⟩)
      · have hm := (h x y hx' hy').1 h5
        have hbad : ∀ a b, a ∉ vs → cls a ≠ none → Cl (Ra arcs) a b → Cl (Ra arcs) b a → Cl (Ra (delA arcs e)) a b := fun a b ha han h7 h8 => by
          rcases hM.cl.1 h7 with h9 | ⟨h9, h10⟩
          · exact h9
          · exact absurd ((hvs a).2 ((h a u han hu).2 ⟨hM.up h9, (huv.trans (hM.up h10)).trans h8⟩)) ha
        exact ⟨hbad x y h3 hx' hm.1 hm.2, hbad y x h4 hy' hm.2 hm.1⟩
      · exact ⟨h5.mono hN, h6.mono hN⟩
    · rintro ⟨h3, h4⟩
      have hc := (h x y hx' hy').2 ⟨hM.up h3, hM.up h4⟩
      by_cases hxv : x ∈ vs
      · have hyv : y ∈ vs := (hvs y).2 (hc.symm.trans ((hvs x).1 hxv))
        exact .inr ⟨hxv, hyv, hin x hxv hx' y h3 h4, hin y hyv hy' x h4 h3⟩
      · exact .inl ⟨hxv, fun hyv => hxv ((hvs x).2 (hc.trans ((hvs y).1 hyv))), hc⟩
end
end Go.Proofs.Ythomnpgpbhpojaa.Cd
