/- tree.Build walked. -/
import Derived.Test.YtgihncjllelonaaGreatHt5
import Derived.Test.YtgihncjllelonaaGreatHt20
namespace Go.Proofs.YtgihncjllelonaaGreat.Tb
open Go Go.RowKit Go.MapKept Go.Proofs.YtgihncjllelonaaGreat.Mem Go.Proofs.YtgihncjllelonaaGreat.Sl Go.Proofs.YtgihncjllelonaaGreat.Lw Go.Proofs.YtgihncjllelonaaGreat.Wt Go.Proofs.YtgihncjllelonaaGreat.Om Go.Proofs.YtgihncjllelonaaGreat.Hn Go.Proofs.YtgihncjllelonaaGreat.Hf Go.Proofs.YtgihncjllelonaaGreatW.PrintWords Go.Proofs.YtgihncjllelonaaGreatW.PrintLast
attribute [local go_sem ↓] Go.wp_at_zero Go.wp_at_succ
attribute [local go_sem] Go.Proofs.YtgihncjllelonaaGreat.Wt.run_store_float
set_option linter.unusedSimpArgs false
set_option linter.unusedVariables false

structure TreeM (w0 W : World) (gt n cv me ms : Nat) (A : Option Addr) (s : Int) (sv : List Int) (es : List Ed) (R : Int → Option (Nat × Int)) : Prop where
  hat : At W gt [.int .i64 s, .slice A n cv, .map (some me), .map (some ms)] 115
  ro : W.ownsRow w0.heap.size 3 1 (.slice A n cv) n (ints sv)
  em : MQ W me (edF es)
  sm : MQ W ms (spF R)
  ne : me ≠ ms
theorem outL_len (l : List Ed) (u : Int) : (outL l u).length ≤ l.length := by
  unfold outL
  rw [List.length_map]
  exact List.length_filter_le _ _
structure Ol (w4 W : World) (mo : Nat) (l : List Ed) (F : Int → Rw) : Prop where
  om : OM W (mo + 1) mo F
  b : Below mo w4 W
  r : ∀ u, rL (F u) = outL l u
  z : mo + 1 ≤ W.heap.size
theorem Ol.below {w4 W W' : World} {mo : Nat} {l : List Ed} {F : Int → Rw} (h : Ol w4 W mo l F) (hb : Below W.heap.size W W') : Ol w4 W' mo l F := ⟨h.om.below hb, h.b.trans (hb.mono (by have := h.z; omega)), h.r, Nat.le_trans h.z hb.size⟩
def dj1 (s : Int) : Dj := ⟨[(s, 0, 1)], 1, setP (fun _ => none) s (0, 0)⟩
theorem mkE (W : World) : (Instr.makeMap 80 none).run Tryz.prog W = .ok (.map (some W.heap.size)) (W.alloc (.map #[] 0)) := rfl
theorem mkS (W : World) : (Instr.makeMap 113 none).run Tryz.prog W = .ok (.map (some W.heap.size)) (W.alloc (.map #[] 0)) := rfl
theorem mkO (W : World) : (Instr.makeMap 118 none).run Tryz.prog W = .ok (.map (some W.heap.size)) (W.alloc (.map #[] 0)) := rfl
structure Bt (w0 W : World) (gt n cv me ms : Nat) (A : Option Addr) (s : Int) (sv : List Int) (f : Int → Option Value) : Prop where
  hat : At W gt [.int .i64 s, .slice A n cv, .map (some me), .map (some ms)] 115
  ro : W.ownsRow w0.heap.size 3 1 (.slice A n cv) n (ints sv)
  em : MQ W me f
  sm : MQ W ms (fun _ => none)
  ne : me ≠ ms
  l1 : w0.heap.size ≤ gt
  l2 : w0.heap.size ≤ me
  l3 : w0.heap.size ≤ ms
  b : Below w0.heap.size w0 W
theorem Bt.below {w0 W W' : World} {gt n cv me ms : Nat} {A : Option Addr} {s : Int} {sv : List Int} {f : Int → Option Value} (h : Bt w0 W gt n cv me ms A s sv f) (hb : Below W.heap.size W W') : Bt w0 W' gt n cv me ms A s sv f :=
  ⟨h.hat.below hb h.hat.lt, own_below h.ro hb, h.em.below hb h.em.lt, h.sm.below hb h.sm.lt, h.ne, h.l1, h.l2, h.l3, h.b.trans (hb.mono h.b.size)⟩
def BuildPost (w : World) (sv : List Int) (es : List Ed) (s : Int) (code : Nat) (e : Ending) (w' : World) : Prop :=
  Below w.heap.size w w' ∧ ((code ≠ 0 ∧ e = .returned (.tuple #[.pointer none, .int .i64 (code : Int)])) ∨ (code = 0 ∧ ∃ gt n c me ms A R, (∃ k, djS es (outL es) k (dj1 s) = some R) ∧ e = .returned (.tuple #[.pointer (some ⟨gt, 0, none⟩), .int .i64 0]) ∧ TreeM w w' gt n c me ms A s sv es R))
def tb19_10.T10 : Bool × List (List Nat × List Nat) := (true, [([], []), ([], []), ([1], [1]), ([], []), ([], []), ([4], [4]), ([3, 5], [3, 5]), ([], []), ([7], [7]), ([8], [8]), ([6, 9], [6, 9]), ([0, 2, 10, 10, 0, 1, 2, 3, 4, 5, 6, 7, 8, 9, 10], [0, 2, 10])])
def tb19_10.B10 : List Nat := [0, 0, 2, 0, 0, 16, 56, 0, 128, 384, 1016, 2047]
theorem tb19_10.tab10 : rtab .any (opsOf Tryz.f19 10) = tb19_10.T10 := by kernel_rfl
theorem tb19_10.bits10 : waitsOk tb19_10.T10.2 tb19_10.B10 = true := by kernel_rfl
def tb19_23.T23 : Bool × List (List Nat × List Nat) := (true, [([], []), ([0], [0]), ([1], [1]), ([2], [2]), ([], []), ([4], [4]), ([3, 5], [3, 5]), ([6], [6]), ([7], [7]), ([7], [7]), ([], []), ([10, 8, 0, 1, 2, 3, 4, 5, 6, 7, 8, 10], [8, 10]), ([9, 11, 0, 1, 2, 3, 4, 5, 6, 7, 8, 9, 10, 11], [9])])
def tb19_23.B23 : List Nat := [0, 1, 3, 7, 0, 16, 63, 127, 255, 255, 0, 1535, 4095]
theorem tb19_23.tab23 : rtab .any (opsOf Tryz.f19 23) = tb19_23.T23 := by kernel_rfl
theorem tb19_23.bits23 : waitsOk tb19_23.T23.2 tb19_23.B23 = true := by kernel_rfl
def tb19_28.T28 : Bool × List (List Nat × List Nat) := (true, [([], []), ([0], [0]), ([1], [1]), ([2], [2]), ([], []), ([4], [4]), ([], []), ([], []), ([6, 7], [6, 7]), ([3, 5, 8, 0, 1, 2, 3, 4, 5, 6, 7, 8], [3, 5, 8])])
def tb19_28.B28 : List Nat := [0, 1, 3, 7, 0, 16, 0, 0, 192, 511]
theorem tb19_28.tab28 : rtab .any (opsOf Tryz.f19 28) = tb19_28.T28 := by kernel_rfl
theorem tb19_28.bits28 : waitsOk tb19_28.T28.2 tb19_28.B28 = true := by kernel_rfl
set_option maxHeartbeats 16000000 in
set_option maxRecDepth 100000 in
theorem build_calls (w : World) (Av Ae : Option Addr) (cv ce : Nat) (vs : List Int) (es : List Ed) (s : Int) (hv : RdI w Av vs) (he : RdD w Ae es) (hvl : vs.length ≤ 400) (hel : es.length ≤ 400) (hbit : ∀ p ∈ es, p.2.2.2 < 4294967296) (hdj : tcode (sorted vs) es s = 0 → ∃ k R, djS es (outL es) k (dj1 s) = some R) :
    Calls Tryz.prog 19 #[.slice Av vs.length cv, .slice Ae es.length ce, .int .i64 s] w fun e w' => BuildPost w (sorted vs) es s (tcode (sorted vs) es s) e w' := by
  obtain ⟨i1, hi1, hz1, hs1, hy1⟩ := info_parts Lw.info_int
  obtain ⟨n, hn⟩ : ∃ n, vs.length = n := ⟨_, rfl⟩
  obtain ⟨m, hm⟩ : ∃ m, es.length = m := ⟨_, rfl⟩
  obtain ⟨code, hcode⟩ : ∃ c, tcode (sorted vs) es s = c := ⟨_, rfl⟩
  have hc := clone_calls w Av cv vs hv (by omega)
  rw [hn] at hc hvl ⊢
  rw [hm] at hel ⊢
  rw [hcode] at hdj ⊢
  have HC := Lib.hid hc
  have HI := Lib.hid (And.intro hn (And.intro hm (And.intro hcode (And.intro he (And.intro hbit hdj)))))
  have h1 := mkE
  have h2 := mkS
  clear hc hn hm hcode he hbit hdj hv
  go_enter Tryz.func19, Tryz.ntmps19
  go_wp2_with fail
  refine HC.out.mono ?_
  clear HC
  rintro e1 w1 ⟨v1, rfl, o1, b1⟩
  obtain ⟨A, cv1, rfl⟩ := Lw.own_slice o1
  have HO1 := Lib.hid (And.intro o1 b1)
  clear o1 b1
  go_wp2_with fail
  obtain ⟨me, hme⟩ : ∃ k, w1.heap.size = k := ⟨_, rfl⟩
  have hB2 : Bt w (((w1.alloc (.map #[] 0)).alloc (.map #[] 0)).alloc (.cells #[.int .i64 s, .slice A n cv1, .map (some w1.heap.size), .map (some (w1.heap.size + 1))] 115)) (me + 1 + 1) n cv1 me (me + 1) A s vs (fun _ => none) := by
    subst hme
    have s1 := HO1.out.2.size
    have hms := (MQ.new (w1.alloc (.map #[] 0))).al (o := .cells #[.int .i64 s, .slice A n cv1, .map (some w1.heap.size), .map (some (w1.heap.size + 1))] 115)
    exact ⟨At.made (by simp) rfl, ((HO1.out.1.alloc _).alloc _).alloc _, ((MQ.new w1).al).al, by simpa using hms, by omega, by omega, by omega, by omega, ((HO1.out.2.alloc s1 _).alloc (by simp; omega) _).alloc (by simp; omega) _⟩
  rw [hme] at hB2 ⊢
  have ho2 := hB2.ro
  have HB2 := Lib.hid hB2
  rw [← HI.out.1] at ho2
  have hs := sort_calls _ _ _ vs ho2 (by have := HI.out.1; omega)
  rw [HI.out.1] at hs
  have HS := Lib.hid hs
  clear hB2 ho2 hs HO1 hme h1 h2
  refine HS.out.mono ?_
  rintro e2 w3 ⟨rfl, o3, g3⟩
  have hB3 : Bt w w3 (me + 1 + 1) n cv1 me (me + 1) A s (sorted vs) (fun _ => none) := by
    have h := HB2.out
    exact ⟨h.hat.grown g3 (own_off h.ro h.hat (by decide)), o3, h.em.grown g3 (h.em.own h.ro), h.sm.grown g3 (h.sm.own h.ro), h.ne, h.l1, h.l2, h.l3, h.b.grown g3 h.b.size fun k hk => (h.ro.lt k hk).1⟩
  obtain ⟨gt, hgt⟩ : ∃ g, me + 1 + 1 = g := ⟨_, rfl⟩
  obtain ⟨ms, hms⟩ : ∃ g, me + 1 = g := ⟨_, rfl⟩
  rw [hgt, hms] at hB3
  rw [hgt]
  have hrd := (RdI.of_own (show w3.ownsRow w.heap.size 3 1 (.slice A n cv1) n (ints (sorted vs)) from hB3.ro)).1
  have htk := take_calls w3 gt me ms n cv1 m ce A Ae (sorted vs) es s hB3.hat hrd (by rw [sorted_length]; exact HI.out.1) (by rw [sorted_length]; have := HI.out.1; omega) (sorted_rising vs) hB3.em (fun j e u v b hx => by
    obtain ⟨g, q1, q2, q3, q4, q5⟩ := HI.out.2.2.2.1 j e u v b hx
    have hb := hB3.b
    exact ⟨g, q1, cell_below hb q2, cell_below hb q3, cell_below hb q4, cell_below hb q5⟩) HI.out.2.1 (by have := HI.out.2.1; omega) HI.out.2.2.2.2.1
  rw [HI.out.2.2.1] at htk
  have HT := Lib.hid htk
  have HB3 := Lib.hid hB3
  have q1 := hB3.hat.cell 1 rfl
  clear HS HB2 o3 g3 hB3 hgt hms hrd htk
  go_wp2_with fail
  refine HT.out.mono ?_
  clear HT q1
  rintro e3 w4 ⟨rfl, k4, m4⟩
  have hB4 : code = 0 → Bt w w4 gt n cv1 me ms A s (sorted vs) (edF es) := fun hz => by
    have h := HB3.out
    exact ⟨h.hat.kept k4 fun e => h.em.ne h.hat e, ⟨h.ro.1, h.ro.2.imp id fun ⟨g, cap, cur, e1, e2, e3, r⟩ => ⟨g, cap, cur, e1, e2, (k4.block g (lt_of_block e3) fun e => h.em.ne (g := g) (cs := cur.toList) (T := 3) (by unfold At; simpa using e3) e).trans e3, r⟩⟩, m4 hz, h.sm.move (k4.block ms h.sm.lt fun e => h.ne e.symm), h.ne, h.l1, h.l2, h.l3, h.b.trans (k4.to_below fun k hk => ⟨Nat.lt_of_lt_of_le hk h.b.size, fun e => by have := h.l2; omega⟩)⟩
  have hbw : Below w.heap.size w w4 := HB3.out.b.trans (k4.to_below fun k hk => ⟨Nat.lt_of_lt_of_le hk HB3.out.b.size, fun e => by have := HB3.out.l2; omega⟩)
  have HBW := Lib.hid (And.intro hbw hB4)
  clear hbw hB4 k4 m4 HB3
  by_cases hz : code = 0
  · subst hz
    have HB4 := Lib.hid (HBW.out.2 rfl)
    have HD := Lib.hid (HI.out.2.2.2.2.2 rfl)
    clear HBW
    have h3 := mkO
    go_upto_block 0 with (fail)
    clear h3
    obtain ⟨mo, hmo⟩ : ∃ g, w4.heap.size = g := ⟨_, rfl⟩
    have hol : Ol w4 (w4.alloc (.map #[] 0)) mo [] (fun _ => none) := by
      subst hmo
      exact ⟨OM.new w4 _, (Below.refl _ _).alloc (Nat.le_refl _) _, fun u => rfl, by simp⟩
    rw [hmo]
    have HOL := Lib.hid hol
    have HMO := Lib.hid hmo
    clear hol hmo
    go_cut [12] from 44 to 59 (fun s12 wx => ∃ F, Ol w4 wx mo es F)
    case first =>
      go_wp2_with fail
      go_loopg [44] (m + 1) (fun kq v44 w' => ∃ j : Nat, v44 = .int .i64 (j : Int) ∧ Hid (j + kq = m + 1 ∧ j ≤ m ∧ ∃ F, Ol w4 w' mo (es.take j) F))
      case atStart => exact ⟨0, rfl, Lib.hid ⟨by omega, by omega, _, HOL.out⟩⟩
      case round =>
        obtain ⟨j, rfl, hJ⟩ := hrel
        obtain ⟨hjk, hjm, F, hol⟩ := hJ.out
        clear hJ HOL
        by_cases hj : j < m
        · obtain ⟨k1, rfl⟩ : ∃ k1, gk = k1 + 1 := ⟨gk - 1, by omega⟩
          obtain ⟨⟨e, u, v, b⟩, hx⟩ : ∃ x, es[j]? = some x := ⟨_, List.getElem?_eq_getElem (by have := HI.out.2.1; omega)⟩
          have hbb : Below w.heap.size w wr := HB4.out.b.trans (hol.b.mono (by have := HB4.out.b.size; rw [← HMO.out]; omega))
          obtain ⟨ge, q0, x0, x1, x2, x3⟩ := HI.out.2.2.2.1 j e u v b hx
          subst q0
          have x0 := (hbb.cell (World.block_lt_of_cell? w _ x0)).trans x0
          have x1 := (hbb.cell (World.block_lt_of_cell? w _ x1)).trans x1
          have x2 := (hbb.cell (World.block_lt_of_cell? w _ x2)).trans x2
          have x3 := (hbb.cell (World.block_lt_of_cell? w _ x3)).trans x3
          have j0 : (0 : Int) ≤ (j : Int) := by omega
          have j1 : (j : Int) < (m : Int) := by omega
          have HOL4 := Lib.hid hol
          have HJ := Lib.hid (And.intro hjk hx)
          clear hol hjk hjm hj hx hbb
          go_upto_region 10 with (fail)
          clear x0 x1 x2 x3
          obtain ⟨gx, hgx⟩ : ∃ g, wr.heap.size = g := ⟨_, rfl⟩
          refine gen_world (fun W => Ol w4 W mo (es.take j) F ∧ At W gx [.int .i64 e, .int .i64 u, .int .i64 v, .int .u32 (b : Int)] 74) ⟨HOL4.out.below ((Below.refl _ _).alloc (Nat.le_refl _) _), At.made hgx rfl⟩ ?_
          rw [hgx]
          clear HOL4 hgx
          rintro wy ⟨hol, hX⟩
          obtain ⟨wd, hwd⟩ : ∃ wd, wy.drew = wd := ⟨_, rfl⟩
          have hbd : Below wy.heap.size wy wd := hwd ▸ (Below.refl _ _).drew
          have HOL := Lib.hid (hol.below hbd)
          have HX := Lib.hid (hX.below hbd hX.lt)
          have hrl : (rL (F u)).length ≤ 400 := by
            rw [hol.r u]
            have := outL_len (es.take j) u
            rw [List.length_take] at this
            have := HI.out.2.1
            omega
          clear hol hX hbd
          obtain ⟨rv, hrv⟩ : ∃ r, rV (F u) = r := ⟨_, rfl⟩
          obtain ⟨rl, hrl2⟩ : ∃ r, rL (F u) = r := ⟨_, rfl⟩
          obtain ⟨nl, hnl⟩ : ∃ r, rl.length = r := ⟨_, rfl⟩
          have hro := HOL.out.om.r u
          rw [hrv, hrl2, hnl] at hro
          rw [hrl2, hnl] at hrl
          have HRO := Lib.hid hro
          have HLK := Lib.hid (fun (W : World) (hb : Below wd.heap.size wd W) => show (Instr.lookup 118 (.map (some mo)) (.int .i64 u) false).run Tryz.prog W = .ok rv W from by
            rw [← hrv]
            exact ((HOL.out.below hb).om).look u)
          have HPU := Lib.hid (fun (o : Obj) (v' : Value) (w' : World) (ho : w'.ownsRow (mo + 1) 3 1 v' (nl + 1) (ints rl ++ [.int .i64 e])) (hg : (wd.alloc o).grownBy w' rv.ownBlock) (hn : v'.ownBlock = rv.ownBlock ∨ v'.ownBlock = some (wd.alloc o).heap.size) => HOL.out.om.push (u := u) (x := e) HOL.out.z (by rw [hrl2, hnl]; exact ho) (by rw [hrv]; exact hg) (by rw [hrv]; exact hn))
          have HLG0 := Lib.hid (fun (o : Obj) (w' : World) (hg : (wd.alloc o).grownBy w' rv.ownBlock) => show (Instr.lookup 118 (.map (some mo)) (.int .i64 u) false).run Tryz.prog w' = .ok rv w' from by
            have := HOL.out.om.lookG (u := u) (o := o) (w' := w') (by rw [hrv]; exact hg)
            rwa [hrv] at this)
          have HRL := Lib.hid hrl2
          clear hro hrv hrl2 hnl
          refine start_ (n := 12) (S := fun w' => w'.cell? ⟨gx, 0, none⟩ = some (.int .i64 e) ∧ w'.cell? ⟨gx, 1, none⟩ = some (.int .i64 u) ∧ (Instr.lookup 118 (.map (some mo)) (.int .i64 u) false).run Tryz.prog w' = .ok rv w') (ds := [11]) (bA 12 0) (by kernel_rfl) rfl rfl ⟨(by rw [hwd]; exact HX.out.cell 0 rfl), (by rw [hwd]; exact HX.out.cell 1 rfl), (by rw [hwd]; exact HLK.out wd (Below.refl _ _))⟩ (fun hHeld => ?_)
          rw [hwd] at hHeld ⊢
          refine with_tabW tb19_10.tab10 tb19_10.bits10 (fun HT_ HW_ => ?_)
          refine pw_ 0 48 (bA 12 1) HT_.out ?_
          refine pw_ 1 49 (bA 12 3) HT_.out ?_
          refine pw_ 3 51 (bA 12 11) HT_.out ?_
          refine pw_ 4 52 (bA 12 27) HT_.out ?_
          refine pw_ 7 55 (bA 12 155) HT_.out ?_
          refine tw_ 2 50 (bA 12 159) HT_.out HW_.out hHeld (hv := by rintro w' ⟨s0, s1, s2⟩; go_simp; with_reducible rfl) (h := ?_)
          refine tw_ 5 53 (bA 12 191) HT_.out HW_.out hHeld (hv := by rintro w' ⟨s0, s1, s2⟩; go_simp; with_reducible rfl) (h := ?_)
          refine tw_ 6 54 (bA 12 255) HT_.out HW_.out hHeld (hv := by rintro w' ⟨s0, s1, s2⟩; go_simp; with_reducible rfl) (h := ?_)
          refine tw_ 8 56 (bA 12 511) HT_.out HW_.out hHeld (hv := by rintro w' ⟨s0, s1, s2⟩; go_simp; with_reducible rfl) (h := ?_)
          refine one_ (i := 9) (N := some 57) (bA 12 1023) rfl rfl (one_of HT_.out (by kernel_rfl)) (by decide) (fun K hK => ?_)
          refine value_ (w1 := ?_) (v := ?_) (by rfl) rfl ?_ ?_
          rotate_left 2
          · go_simp
            constructor
            · rfl
            · rfl
          refine hK.out _ _ ⟨(HX.out.al.cell 0 rfl), (HX.out.al.cell 1 rfl), (HLK.out _ ((Below.refl _ _).alloc (Nat.le_refl _) _))⟩ (fun hHeld => ?_)
          clear hK K
          refine norm_ (a' := ?_) ?_ ?_
          rotate_left
          · show Act.put _ (some 57) _ = _
            simp only [Act.put, pA, pB, pC, pD, pE]; rfl
          refine one_ (i := 10) (N := some 58) (bA 12 2047) rfl rfl (one_of HT_.out (by kernel_rfl)) (by decide) (fun K hK => ?_)
          refine step_append_any rfl (.tmp 54) (.tmp 57) 22 rfl (mo + 1) 3 i1 (.int .i64 0) 1 8 Tryz.underlying22 hi1 hz1 hs1 hy1 rfl (by omega) _ _ _ rfl (HRO.out.alloc (.cells #[.int .i64 e] 3)) _ rfl 1 [.int .i64 e] (RdV.lit wd #[.int .i64 e] 3 1 1 1 rfl (by simp [Value.oneCell'])) (by unfold maxLen; omega) (by omega) (by have := HOL.out.z; simp; omega) ?_
          intro v7 w7 ho hg hn
          obtain ⟨o2, hr2, hom, hk⟩ := HPU.out _ v7 w7 ho hg hn
          have HN := Lib.hid (And.intro hom hk)
          have HX7 := Lib.hid (HX.out.al.grown hg (own_off (HRO.out.alloc (.cells #[.int .i64 e] 3)) HX.out.al (by decide)))
          have HLG := Lib.hid (HLG0.out _ w7 hg)
          clear ho hg hn hom hk
          refine hK.out _ _ ⟨(HX7.out.cell 0 rfl), (HX7.out.cell 1 rfl), HLG.out⟩ (fun hHeld => ?_)
          clear hK K
          refine norm_ (a' := ?_) ?_ ?_
          rotate_left
          · show Act.put _ (some 58) _ = _
            simp only [Act.put, pA, pB, pC, pD, pE]; rfl
          refine last_ (i := 11) (N := none) (bA 12 4095) rfl rfl (one_of HT_.out (by kernel_rfl)) (by decide) (fun K hK => ?_)
          refine skip_ (w1 := ?_) (by rfl) rfl ?_ ?_
          rotate_left; · go_simp; rfl
          refine hK.out _ _ ?_; clear hK K
          refine done_ (done_of HT_.out (by kernel_rfl)) ?_
          clear hHeld HT_ HW_
          have HX := Lib.hid (show j + 1 + k1 = m + 1 ∧ j + 1 ≤ m ∧ ∃ F, Ol w4 (putObj w7 mo o2) mo (es.take (j + 1)) F from ⟨by have := HJ.out.1; omega, by omega, _, HN.out.1, (HOL.out.b.trans (HN.out.2.to_below fun k hk => ⟨by have := HOL.out.z; omega, fun hh => by omega⟩)), fun y => by
            rw [List.take_add_one, HJ.out.2]
            show _ = outL (es.take j ++ [(e, u, v, b)]) y
            rw [outL_snoc]
            by_cases hy : y = u
            · rw [if_pos hy, if_pos hy, ← HOL.out.r, hy]
              rfl
            · rw [if_neg hy, if_neg hy, HOL.out.r], Nat.le_trans HOL.out.z HN.out.2.size⟩)
          clear HN hr2 HPU HLK HLG HLG0 HX7 HRO HOL HRL HJ hwd
          go_wp2
          go_roundg k1
          case measure => omega
          case rel => exact ⟨j + 1, by go_num, HX⟩
        · obtain rfl : j = m := by omega
          have jn : ¬ ((j : Int) < (j : Int)) := by omega
          rw [List.take_of_length_le (by have := HI.out.2.1; omega)] at hol
          have HZ := Lib.hid hol
          clear hol hjk hjm hj
          go_wp2_with fail
          go_meet
          exact ⟨F, HZ.out⟩
    case rest =>
      obtain ⟨F, hol⟩ := hcut
      rename World => w5
      have hbt := HB4.out.below (HMO.out.symm ▸ hol.b : Below w4.heap.size w4 w5)
      have hmo := HMO.out
      have hlt := HB4.out.sm.lt
      have HLO := Lib.hid (show Lo w5 gt me ms mo (mo + 1) n cv1 A s es F from ⟨hbt.hat, hbt.em, hol.om, ⟨_, hbt.sm⟩, hbt.ne, by omega, by omega⟩)
      have HBT := Lib.hid hbt
      have HFR := Lib.hid hol.r
      have HN := Lib.hid (new_calls w5)
      clear hbt hol HOL hmo hlt HMO HB4
      go_wp2_with fail
      refine HN.out.mono ?_
      clear HN
      rintro e6 w6 ⟨hb, mb, rfl, hp6, b6, l2, l3⟩
      have hdy : Dy w5 ms hb mb w6.heap.size ⟨[], 0, fun _ => none⟩ w6 := ⟨Kpt.of_below b6, HBT.out.sm.below b6 HBT.out.sm.lt, ⟨_, hp6⟩, HBT.out.sm.lt, l2, l3, b6.size, Nat.le_refl _, fun v r h => by cases h⟩
      obtain ⟨base5, hb5⟩ : ∃ b, w6.heap.size = b := ⟨_, rfl⟩
      rw [hb5] at hdy
      obtain ⟨o, hr, hdy2⟩ := hdy.spot s (0, 0) (by simp)
      have c3 := (HLO.out.go hdy.k).1.cell 3 rfl
      have HDY := Lib.hid hdy2
      clear hp6 b6 l2 l3 hdy hb5 hdy2
      go_upto_region 14 with (fail)
      clear hr c3
      obtain ⟨w7, hw7⟩ : ∃ W, putObj w6 ms o = W := ⟨_, rfl⟩
      rw [hw7] at HDY ⊢
      clear hw7
      have hps := HDY.out.push (v := s) (c := 0) (T := [(s, 0, 1)]) (by simp) (by simp) (by simp) (by omega) rfl
      have HPS := Lib.hid hps
      clear hps HDY
      go_wp2_with fail
      refine HPS.out.mono ?_
      clear HPS
      rintro e8 w8 ⟨rfl, hdy, _⟩
      obtain ⟨k0, R, hR⟩ := HD.out
      obtain ⟨k, rfl⟩ : ∃ k, k0 = k + 1 := by
        cases k0 with
        | zero => cases hR
        | succ k => exact ⟨k, rfl⟩
      have HP := Lib.hid (Dy.pop (es := es) hdy hR)
      have HRR := Lib.hid hR
      clear hdy hR HD
      go_wp2_with fail
      refine HP.out.mono ?_
      clear HP
      rintro e9 w9 ⟨x, y, z, rfl, hq⟩
      have HQ := Lib.hid hq
      clear hq
      go_wp2_with fail
      go_loopg [14, 15, 16] k (fun kq v14 v15 v16 w' => Hid (PopQ w5 ms hb mb base5 es R kq v14 v15 v16 w'))
      case atStart => exact HQ.out |> Lib.hid
      case round =>
        clear HQ
        rcases hrel.out with ⟨rfl, st, hdy, hst⟩ | ⟨u, d, st, rfl, rfl, rfl, hdy, hd, hR⟩
        · have HZ := Lib.hid (And.intro hdy hst)
          clear hrel hdy hst
          go_wp2
          go_ret2
          obtain ⟨hdy, hst⟩ := HZ.out
          obtain ⟨q1, q2, q3⟩ := HLO.out.go hdy.k
          have hs := hdy.s
          rw [hst] at hs
          have hbk : Below w.heap.size w wr := HBT.out.b.trans (hdy.k.to_below fun i hi => ⟨Nat.lt_of_lt_of_le hi HBT.out.b.size, fun hh => by have := HBT.out.l3; have := HBT.out.b.size; omega⟩)
          refine ⟨hbk, .inr ⟨rfl, gt, n, cv1, me, ms, A, R, ⟨_, HRR.out⟩, rfl, q1, ?_, q2, hs, HBT.out.ne⟩⟩
          have hro := HBT.out.ro
          refine ⟨hro.1, hro.2.imp id fun ⟨g, cap, cur, e1, e2, e3, r⟩ => ⟨g, cap, cur, e1, e2, (hdy.k.block g (lt_of_block e3) fun hh => hh.elim (fun e => HBT.out.sm.ne (g := g) (cs := cur.toList) (T := 3) (by unfold At; simpa using e3) e) fun hh => by have := lt_of_block e3; omega).trans e3, r⟩⟩
        · clear hrel
          obtain ⟨k1, rfl⟩ : ∃ k1, gk = k1 + 1 := by
            cases gk with
            | zero =>
              cases he : edgesS es d (outL es u) st with
              | none => rw [he] at hR; cases hR
              | some q => rw [he] at hR; cases hR
            | succ k1 => exact ⟨k1, rfl⟩
          obtain ⟨stE, hE, hR2⟩ := Option.bind_eq_some_iff.1 hR
          obtain ⟨q1, q2, q3⟩ := HLO.out.go hdy.k
          have hlk := q3.look u
          obtain ⟨A3, c3, hv3⟩ := Lw.own_slice (q3.r u)
          have hlr := HFR.out u
          obtain ⟨nl, hnl⟩ : ∃ r, (rL (F u)).length = r := ⟨_, rfl⟩
          rw [hv3] at hlk
          rw [hnl] at hv3 hlk
          have HV3 := Lib.hid (And.intro hv3 (And.intro hlr hnl))
          have HRT := Lib.hid (And.intro hd hR2)
          have HS := Lib.hid (And.intro hdy hE)
          have hnl4 : nl ≤ 400 := by
            rw [← hnl, hlr]
            have := outL_len es u
            have := HI.out.2.1
            omega
          clear q1 q2 q3 hv3 hlr hnl hd hR2 hdy hE hR
          go_wp2_with fail
          clear hlk
          go_loopg [87] (nl + 1) (fun kq v87 w' => ∃ j : Nat, v87 = .int .i64 (j : Int) ∧ Hid (j + kq = nl + 1 ∧ j ≤ nl ∧ ∃ st, Dy w5 ms hb mb base5 st w' ∧ edgesS es d ((outL es u).drop j) st = some stE))
          case atStart => exact ⟨0, rfl, Lib.hid ⟨by omega, by omega, _, HS.out.1, by rw [List.drop_zero]; exact HS.out.2⟩⟩
          case round =>
            obtain ⟨j, rfl, hJ⟩ := hrel
            obtain ⟨hjk, hjn, st1, hdy, hE⟩ := hJ.out
            clear hJ HS
            by_cases hj : j < nl
            · obtain ⟨k2, rfl⟩ : ∃ k2, gk = k2 + 1 := ⟨gk - 1, by omega⟩
              have hlen : (outL es u).length = nl := by have := HV3.out.2.2; rwa [HV3.out.2.1] at this
              obtain ⟨e, hx⟩ : ∃ e, (outL es u)[j]? = some e := ⟨_, List.getElem?_eq_getElem (by omega)⟩
              have hdrop : (outL es u).drop j = e :: (outL es u).drop (j + 1) := by
                obtain ⟨h1, h2⟩ := List.getElem?_eq_some_iff.1 hx
                rw [← h2]
                exact (List.getElem_cons_drop h1).symm
              rw [hdrop, edgesS] at hE
              obtain ⟨st2, hr2, hE2⟩ := Option.bind_eq_some_iff.1 hE
              obtain ⟨xu, xv, xb, hfind, hl1, hl2, hcase⟩ := relaxE_some hr2
              obtain ⟨q1, q2, q3⟩ := HLO.out.go hdy.k
              have hrow := q3.r u
              rw [HV3.out.2.2, HV3.out.2.1, HV3.out.1] at hrow
              obtain ⟨g3, hg3, cx⟩ := (RdI.of_own hrow).1 j e hx
              subst hg3
              have hedF : edF es e = some (edV (e, xu, xv, xb)) := by unfold edF; rw [hfind]; rfl
              have hlkE : (Instr.lookup 80 (.map (some me)) (.int .i64 e) false).run Tryz.prog wr = .ok (.agg #[.int .i64 e, .int .i64 xu, .int .i64 xv, .int .u32 (xb : Int)]) wr := by
                have := q2.lookup (P := Tryz.prog) (T := 80) Tryz.underlying80 Tryz.underlying3 zero_edge e
                rwa [hedF] at this
              have c2 := q1.cell 2 rfl
              have hxb : xb < 4294967296 := HI.out.2.2.2.2.1 _ (List.mem_of_find?_eq_some hfind)
              have hfb : ∀ W : World, (callFunc 60 #[.int .u32 (xb : Int)]).run Tryz.prog W = .ok (.value (.float .f32 xb)) W := fun W => by
                have := frombits_run xb W
                rwa [Int.toNat_natCast] at this
              have hd32 : d < 4294967296 := by have := HRT.out.1; omega
              obtain ⟨cc, hcc⟩ : ∃ c, add32 d xb = c := ⟨_, rfl⟩
              have hc32 := (add32_some hd32 hxb).2
              have hadd := fun W : World => add_calls d xb W hd32 hxb
              rw [hcc] at hc32 hcase
              simp only [hcc] at hadd
              have HADD := Lib.hid hadd
              have HCC := Lib.hid (And.intro hcc hc32)
              have HCA := Lib.hid (And.intro hcase (And.intro hl1 hl2))
              have HDY0 := Lib.hid hdy
              have HJ := Lib.hid (And.intro hjk hE2)
              have j0 : (0 : Int) ≤ (j : Int) := by omega
              have j1 : (j : Int) < (nl : Int) := by omega
              clear hlen hx hdrop hE hr2 hE2 hfind hl1 hl2 hcase q1 q2 q3 hrow hedF hxb hd32 hcc hc32 hadd hdy hjk hjn hj
              go_wp2_with fail
              refine (HADD.out _).mono ?_
              clear HADD cx hlkE c2 hfb
              rintro e12 w12 ⟨rfl, rfl⟩
              go_upto_region 23 with (fail)
              obtain ⟨gx, hgx⟩ : ∃ g, wr.heap.size = g := ⟨_, rfl⟩
              refine gen_world (fun W => Dy w5 ms hb mb base5 st1 W ∧ At W gx [.int .i64 e, .int .i64 xu, .int .i64 xv, .int .u32 (xb : Int)] 74) ⟨HDY0.out.below ((Below.refl _ _).alloc (Nat.le_refl _) _), At.made hgx rfl⟩ ?_
              rw [hgx]
              clear HDY0 hgx
              rintro wy ⟨hdy, hX⟩
              obtain ⟨wd, hwd⟩ : ∃ wd, wy.drew = wd := ⟨_, rfl⟩
              have hbd : Below wy.heap.size wy wd := hwd ▸ (Below.refl _ _).drew
              have HDY := Lib.hid (hdy.below hbd)
              have HX := Lib.hid (hX.below hbd hX.lt)
              have HG := Lib.hid (HLO.out.go HDY.out.k).1
              clear hdy hX hbd
              rcases HCA.out.1 with ⟨hsp, hnew, T, hT, rfl⟩ | ⟨⟨r1, r2⟩, hsp, hlow⟩
              · skip
                have HLK := Lib.hid (fun (W : World) (hb' : Below wd.heap.size wd W) => show (Instr.lookup 113 (.map (some ms)) (.int .i64 xv) true).run Tryz.prog W = .ok (.tuple #[.agg #[.float .f32 0, .int .i64 0], .bool false]) W from by
                  have := (HDY.out.below hb').look xv
                  unfold spF at this
                  rwa [hsp] at this)
                have HSP := Lib.hid hsp
                clear hsp
                refine start_ (n := 13) (S := fun w' => w'.cell? ⟨gt, 3, none⟩ = some (.map (some ms)) ∧ w'.cell? ⟨gx, 2, none⟩ = some (.int .i64 xv) ∧ (Instr.lookup 113 (.map (some ms)) (.int .i64 xv) true).run Tryz.prog w' = .ok (.tuple #[.agg #[.float .f32 0, .int .i64 0], .bool false]) w') (ds := [11]) (bA 13 0) (by kernel_rfl) rfl rfl ⟨(by rw [hwd]; exact HG.out.cell 3 rfl), (by rw [hwd]; exact HX.out.cell 2 rfl), (by rw [hwd]; exact HLK.out wd (Below.refl _ _))⟩ (fun hHeld => ?_)
                rw [hwd] at hHeld ⊢
                refine with_tabW tb19_23.tab23 tb19_23.bits23 (fun HT_ HW_ => ?_)
                refine pw_ 0 103 (bA 13 1) HT_.out ?_
                refine pw_ 1 104 (bA 13 3) HT_.out ?_
                refine pw_ 2 105 (bA 13 7) HT_.out ?_
                refine pw_ 4 107 (bA 13 23) HT_.out ?_
                refine tw_ 3 106 (bA 13 31) HT_.out HW_.out hHeld (hv := by rintro w' ⟨s0, s1, s2⟩; go_simp; with_reducible rfl) (h := ?_)
                refine tw_ 5 108 (bA 13 63) HT_.out HW_.out hHeld (hv := by rintro w' ⟨s0, s1, s2⟩; go_simp; with_reducible rfl) (h := ?_)
                refine tw_ 6 109 (bA 13 127) HT_.out HW_.out hHeld (hv := by rintro w' ⟨s0, s1, s2⟩; go_simp; with_reducible rfl) (h := ?_)
                refine pw_ 7 102 (bA 13 255) HT_.out ?_
                refine pw_ 8 110 (bA 13 511) HT_.out ?_
                refine pw_ 9 111 (bA 13 1023) HT_.out ?_
                refine one_ (i := 10) (N := some 21) (bA 13 2047) rfl rfl (one_of HT_.out (by kernel_rfl)) (by decide) (fun K hK => ?_)
                refine value_ (w1 := ?_) (v := ?_) (by rfl) rfl ?_ ?_
                rotate_left 2
                · go_simp
                  constructor
                  · rfl
                  · rfl
                refine hK.out _ _ ⟨(HG.out.al.cell 3 rfl), (HX.out.al.cell 2 rfl), (HLK.out _ ((Below.refl _ _).alloc (Nat.le_refl _) _))⟩ (fun hHeld => ?_)
                clear hK K
                refine norm_ (a' := ?_) ?_ ?_
                rotate_left
                · show Act.put _ (some 21) _ = _
                  simp only [Act.put, pA, pB, pC, pD, pE]; rfl
                refine last_ (i := 11) (N := none) (bA 13 4095) rfl rfl (one_of HT_.out (by kernel_rfl)) (by decide) (fun K hK => ?_)
                refine skip_ (w1 := ?_) (by rfl) rfl ?_ ?_
                rotate_left; · go_simp; rfl
                refine hK.out _ _ ?_; clear hK K
                refine pw_ 12 22 (bA 13 8191) HT_.out ?_
                refine done_ (done_of HT_.out (by kernel_rfl)) ?_
                clear hHeld HT_ HW_
                refine gen_then (fun W => Dy w5 ms hb mb base5 st1 W ∧ At W gx [.int .i64 e, .int .i64 xu, .int .i64 xv, .int .u32 (xb : Int)] 74) ⟨HDY.out.below ((Below.refl _ _).alloc (Nat.le_refl _) _), HX.out.al⟩ ?_
                clear HDY HX HG HLK hwd
                rintro wy ⟨hdy, hX⟩
                have x2 := hX.cell 2 rfl
                have HX := Lib.hid hX
                have HPS := Lib.hid (hdy.push (v := xv) (c := cc) (T := T) HCA.out.2.1 HCA.out.2.2 hnew HCC.out.2 hT)
                clear hdy hX hnew hT
                go_wp2_with fail
                refine HPS.out.mono ?_
                clear HPS x2
                rintro e12 w12 ⟨rfl, hdy2, hst2⟩
                have HDY := Lib.hid hdy2
                have HX2 := Lib.hid (hst2 _ _ _ HX.out (by decide) (by decide))
                clear hdy2 hst2 HX
                have HX := Lib.hid HX2.out
                clear HX2
                go_upto_region 28 with (fail)
                obtain ⟨wd, hwd⟩ : ∃ wd, w12.drew = wd := ⟨_, rfl⟩
                have hbd : Below w12.heap.size w12 wd := hwd ▸ (Below.refl _ _).drew
                have hdy := HDY.out.below hbd
                have hxx := HX.out.below hbd HX.out.lt
                clear HDY HX
                have HX := Lib.hid hxx
                have HG := Lib.hid (HLO.out.go hdy.k).1
                obtain ⟨o, hr, hdy2⟩ := hdy.spot xv (cc, e) HCC.out.2
                have HDY := Lib.hid hdy2
                clear hdy hxx hdy2 hbd
                refine start_ (n := 10) (S := fun w' => w'.cell? ⟨gt, 3, none⟩ = some (.map (some ms)) ∧ w'.cell? ⟨gx, 2, none⟩ = some (.int .i64 xv)) (ds := [9]) (bA 10 0) (by kernel_rfl) rfl rfl ⟨(by rw [hwd]; exact HG.out.cell 3 rfl), (by rw [hwd]; exact HX.out.cell 2 rfl)⟩ (fun hHeld => ?_)
                rw [hwd] at hHeld ⊢
                refine with_tabW tb19_28.tab28 tb19_28.bits28 (fun HT_ HW_ => ?_)
                refine pw_ 0 131 (bA 10 1) HT_.out ?_
                refine pw_ 1 132 (bA 10 3) HT_.out ?_
                refine pw_ 2 133 (bA 10 7) HT_.out ?_
                refine pw_ 4 135 (bA 10 23) HT_.out ?_
                refine pw_ 6 137 (bA 10 87) HT_.out ?_
                refine pw_ 7 138 (bA 10 215) HT_.out ?_
                refine pw_ 8 139 (bA 10 471) HT_.out ?_
                refine tw_ 3 134 (bA 10 479) HT_.out HW_.out hHeld (hv := by rintro w' ⟨s0, s1⟩; go_simp; with_reducible rfl) (h := ?_)
                refine tw_ 5 136 (bA 10 511) HT_.out HW_.out hHeld (hv := by rintro w' ⟨s0, s1⟩; go_simp; with_reducible rfl) (h := ?_)
                refine last_ (i := 9) (N := none) (bA 10 1023) rfl rfl (one_of HT_.out (by kernel_rfl)) (by decide) (fun K hK => ?_)
                refine skip_ (w1 := ?_) (by rfl) rfl ?_ ?_
                rotate_left; · go_simp; rfl
                refine hK.out _ _ ?_; clear hK K
                refine done_ (done_of HT_.out (by kernel_rfl)) ?_
                clear hHeld HT_ HW_
                have HX := Lib.hid (show j + 1 + k2 = nl + 1 ∧ j + 1 ≤ nl ∧ ∃ st, Dy w5 ms hb mb base5 st (putObj wd ms o) ∧ edgesS es d ((outL es u).drop (j + 1)) st = some stE from ⟨by have := HJ.out.1; omega, by omega, _, HDY.out, HJ.out.2⟩)
                clear HDY HG HJ hr hwd
                go_wp2
                go_roundg k2
                case measure => omega
                case rel => exact ⟨j + 1, by go_num, HX⟩
              · have hr32 := HDY.out.q xv _ hsp
                have HLOW := Lib.hid (And.intro hlow hr32)
                clear hlow hr32
                have HLK := Lib.hid (fun (W : World) (hb' : Below wd.heap.size wd W) => show (Instr.lookup 113 (.map (some ms)) (.int .i64 xv) true).run Tryz.prog W = .ok (.tuple #[.agg #[.float .f32 r1, .int .i64 r2], .bool true]) W from by
                  have := (HDY.out.below hb').look xv
                  unfold spF at this
                  rwa [hsp] at this)
                have HSP := Lib.hid hsp
                clear hsp
                refine start_ (n := 13) (S := fun w' => w'.cell? ⟨gt, 3, none⟩ = some (.map (some ms)) ∧ w'.cell? ⟨gx, 2, none⟩ = some (.int .i64 xv) ∧ (Instr.lookup 113 (.map (some ms)) (.int .i64 xv) true).run Tryz.prog w' = .ok (.tuple #[.agg #[.float .f32 r1, .int .i64 r2], .bool true]) w') (ds := [11]) (bA 13 0) (by kernel_rfl) rfl rfl ⟨(by rw [hwd]; exact HG.out.cell 3 rfl), (by rw [hwd]; exact HX.out.cell 2 rfl), (by rw [hwd]; exact HLK.out wd (Below.refl _ _))⟩ (fun hHeld => ?_)
                rw [hwd] at hHeld ⊢
                refine with_tabW tb19_23.tab23 tb19_23.bits23 (fun HT_ HW_ => ?_)
                refine pw_ 0 103 (bA 13 1) HT_.out ?_
                refine pw_ 1 104 (bA 13 3) HT_.out ?_
                refine pw_ 2 105 (bA 13 7) HT_.out ?_
                refine pw_ 4 107 (bA 13 23) HT_.out ?_
                refine tw_ 3 106 (bA 13 31) HT_.out HW_.out hHeld (hv := by rintro w' ⟨s0, s1, s2⟩; go_simp; with_reducible rfl) (h := ?_)
                refine tw_ 5 108 (bA 13 63) HT_.out HW_.out hHeld (hv := by rintro w' ⟨s0, s1, s2⟩; go_simp; with_reducible rfl) (h := ?_)
                refine tw_ 6 109 (bA 13 127) HT_.out HW_.out hHeld (hv := by rintro w' ⟨s0, s1, s2⟩; go_simp; with_reducible rfl) (h := ?_)
                refine pw_ 7 102 (bA 13 255) HT_.out ?_
                refine pw_ 8 110 (bA 13 511) HT_.out ?_
                refine pw_ 9 111 (bA 13 1023) HT_.out ?_
                refine one_ (i := 10) (N := some 21) (bA 13 2047) rfl rfl (one_of HT_.out (by kernel_rfl)) (by decide) (fun K hK => ?_)
                refine value_ (w1 := ?_) (v := ?_) (by rfl) rfl ?_ ?_
                rotate_left 2
                · go_simp
                  constructor
                  · rfl
                  · rfl
                refine hK.out _ _ ⟨(HG.out.al.cell 3 rfl), (HX.out.al.cell 2 rfl), (HLK.out _ ((Below.refl _ _).alloc (Nat.le_refl _) _))⟩ (fun hHeld => ?_)
                clear hK K
                refine norm_ (a' := ?_) ?_ ?_
                rotate_left
                · show Act.put _ (some 21) _ = _
                  simp only [Act.put, pA, pB, pC, pD, pE]; rfl
                refine last_ (i := 11) (N := none) (bA 13 4095) rfl rfl (one_of HT_.out (by kernel_rfl)) (by decide) (fun K hK => ?_)
                refine skip_ (w1 := ?_) (by rfl) rfl ?_ ?_
                rotate_left; · go_simp; rfl
                refine hK.out _ _ ?_; clear hK K
                refine pw_ 12 22 (bA 13 8191) HT_.out ?_
                refine done_ (done_of HT_.out (by kernel_rfl)) ?_
                clear hHeld HT_ HW_
                obtain ⟨gs, hgs⟩ : ∃ g, wd.heap.size = g := ⟨_, rfl⟩
                refine gen_then (fun W => Dy w5 ms hb mb base5 st1 W ∧ At W gx [.int .i64 e, .int .i64 xu, .int .i64 xv, .int .u32 (xb : Int)] 74 ∧ At W gs [.float .f32 r1, .int .i64 r2] 123) ⟨HDY.out.below ((Below.refl _ _).alloc (Nat.le_refl _) _), HX.out.al, At.made hgs rfl⟩ ?_
                rw [hgs]
                clear HDY HX HG HLK hwd hgs
                rintro wy ⟨hdy, hX, hS⟩
                have s0 := hS.cell 0 rfl
                have HBE := Lib.hid (before_calls cc r1 wy HCC.out.2 HLOW.out.2)
                have HX := Lib.hid hX
                have HDY := Lib.hid hdy
                clear hdy hX hS
                go_wp2_with fail
                refine HBE.out.mono ?_
                clear HBE s0
                rintro e12 w12 ⟨rfl, rfl⟩
                rcases HLOW.out.1 with ⟨hlt, T, hT, rfl⟩ | ⟨hlt, rfl⟩
                · have e1 : decide (cc < r1) = true := decide_eq_true hlt
                  have x2 := HX.out.cell 2 rfl
                  have HPS := Lib.hid (HDY.out.lower (v := xv) (c := cc) (T := T) HCA.out.2.1 HCC.out.2 hT)
                  clear HDY hlt hT
                  go_wp2_with fail
                  refine HPS.out.mono ?_
                  clear HPS x2 e1
                  rintro e12 w12 ⟨rb, rfl, hdy2, hst2⟩
                  have HDY := Lib.hid hdy2
                  have HX2 := Lib.hid (hst2 _ _ _ HX.out (by decide) (by decide))
                  clear hdy2 hst2 HX
                  have HX := Lib.hid HX2.out
                  clear HX2
                  go_upto_region 28 with (fail)
                  obtain ⟨wd, hwd⟩ : ∃ wd, w12.drew = wd := ⟨_, rfl⟩
                  have hbd : Below w12.heap.size w12 wd := hwd ▸ (Below.refl _ _).drew
                  have hdy := HDY.out.below hbd
                  have hxx := HX.out.below hbd HX.out.lt
                  clear HDY HX
                  have HX := Lib.hid hxx
                  have HG := Lib.hid (HLO.out.go hdy.k).1
                  obtain ⟨o, hr, hdy2⟩ := hdy.spot xv (cc, e) HCC.out.2
                  have HDY := Lib.hid hdy2
                  clear hdy hxx hdy2 hbd
                  refine start_ (n := 10) (S := fun w' => w'.cell? ⟨gt, 3, none⟩ = some (.map (some ms)) ∧ w'.cell? ⟨gx, 2, none⟩ = some (.int .i64 xv)) (ds := [9]) (bA 10 0) (by kernel_rfl) rfl rfl ⟨(by rw [hwd]; exact HG.out.cell 3 rfl), (by rw [hwd]; exact HX.out.cell 2 rfl)⟩ (fun hHeld => ?_)
                  rw [hwd] at hHeld ⊢
                  refine with_tabW tb19_28.tab28 tb19_28.bits28 (fun HT_ HW_ => ?_)
                  refine pw_ 0 131 (bA 10 1) HT_.out ?_
                  refine pw_ 1 132 (bA 10 3) HT_.out ?_
                  refine pw_ 2 133 (bA 10 7) HT_.out ?_
                  refine pw_ 4 135 (bA 10 23) HT_.out ?_
                  refine pw_ 6 137 (bA 10 87) HT_.out ?_
                  refine pw_ 7 138 (bA 10 215) HT_.out ?_
                  refine pw_ 8 139 (bA 10 471) HT_.out ?_
                  refine tw_ 3 134 (bA 10 479) HT_.out HW_.out hHeld (hv := by rintro w' ⟨s0, s1⟩; go_simp; with_reducible rfl) (h := ?_)
                  refine tw_ 5 136 (bA 10 511) HT_.out HW_.out hHeld (hv := by rintro w' ⟨s0, s1⟩; go_simp; with_reducible rfl) (h := ?_)
                  refine last_ (i := 9) (N := none) (bA 10 1023) rfl rfl (one_of HT_.out (by kernel_rfl)) (by decide) (fun K hK => ?_)
                  refine skip_ (w1 := ?_) (by rfl) rfl ?_ ?_
                  rotate_left; · go_simp; rfl
                  refine hK.out _ _ ?_; clear hK K
                  refine done_ (done_of HT_.out (by kernel_rfl)) ?_
                  clear hHeld HT_ HW_
                  have HX := Lib.hid (show j + 1 + k2 = nl + 1 ∧ j + 1 ≤ nl ∧ ∃ st, Dy w5 ms hb mb base5 st (putObj wd ms o) ∧ edgesS es d ((outL es u).drop (j + 1)) st = some stE from ⟨by have := HJ.out.1; omega, by omega, _, HDY.out, HJ.out.2⟩)
                  clear HDY HG HJ hr hwd
                  go_wp2
                  go_roundg k2
                  case measure => omega
                  case rel => exact ⟨j + 1, by go_num, HX⟩
                · have e1 : decide (cc < r1) = false := decide_eq_false hlt
                  have HX := Lib.hid (show j + 1 + k2 = nl + 1 ∧ j + 1 ≤ nl ∧ ∃ st, Dy w5 ms hb mb base5 st w12 ∧ edgesS es d ((outL es u).drop (j + 1)) st = some stE from ⟨by have := HJ.out.1; omega, by omega, _, HDY.out, HJ.out.2⟩)
                  clear HDY hlt HJ
                  go_wp2
                  go_roundg k2
                  case measure => omega
                  case rel => exact ⟨j + 1, by go_num, HX⟩
            · obtain rfl : j = nl := by omega
              have jn : ¬ ((j : Int) < (j : Int)) := by omega
              rw [List.drop_eq_nil_of_le (by have := HV3.out.2.2; rw [HV3.out.2.1] at this; omega)] at hE
              obtain rfl := Option.some.inj hE
              have HP := Lib.hid (Dy.pop (es := es) hdy HRT.out.2)
              clear hdy hE hjk hjn hj
              go_wp2_with fail
              refine HP.out.mono ?_
              clear HP
              rintro e11 w11 ⟨x2, y2, z2, rfl, hq⟩
              have HQ := Lib.hid hq
              clear hq HV3 HRT hnl4
              go_wp2_with fail
              go_roundg k1
              case measure => omega
              case rel => exact Lib.hid HQ.out
  · have hz1 : ¬ ((code : Int) = 0) := by omega
    have hz2 : ((code : Int) != 0) = true := by simpa using hz1
    have HZ := Lib.hid hz
    clear hz
    go_wp2
    go_ret2
    exact ⟨HBW.out.1, .inl ⟨HZ.out, rfl⟩⟩
end Go.Proofs.YtgihncjllelonaaGreat.Tb
