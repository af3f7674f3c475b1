/- cover: label. -/
import Derived.Test.YtdohfjidnbhfnaaGo28
namespace Go.Proofs.Ytdohfjidnbhfnaa.Cv
open Go Go.RowKit Go.Proofs.Ytdohfjidnbhfnaa.Mem Go.Proofs.Ytdohfjidnbhfnaa.Tj Go.Proofs.Ytdohfjidnbhfnaa.Scc Go.Proofs.Ytdohfjidnbhfnaa.Sp Go.Proofs.Ytdohfjidnbhfnaa.Sl Go.Proofs.Ytdohfjidnbhfnaa.Rf Go.Proofs.Ytdohfjidnbhfnaa.Lw Go.Proofs.YtdohfjidnbhfnaaW.PrintWords Go.Proofs.YtdohfjidnbhfnaaW.PrintLast
attribute [local go_sem] Oper.semAt_some
attribute [local go_sem ↓] Go.wp_at_zero Go.wp_at_succ
set_option linter.unusedSimpArgs false
set_option linter.unusedVariables false

theorem gen_in {F : Fence} {m : Nat} {P : Program} {c : Code} {Q : Exit → Act → World → Prop} {a : Act} {w : World} (I : World → Prop) (h : I w) (k : ∀ W, I W → c.wpIn F m P Q a W) : c.wpIn F m P Q a w := k w h

structure OB (w0 w : World) (bc gc gn ga bk bo base n : Nat) (nd : List Nd) (al : List Int) (vals : List Value) (out : List (List Nat)) (W : World) : Prop where
  hbc : At W bc [.pointer (some ⟨gc, 0, none⟩)] 23
  hc : CovS W gc gn ga n nd al
  hbk : At W bk [.slice (some ⟨bo, 0, none⟩) n n] 95
  hr : Rws W base bo n vals out
  b : Below w.heap.size w W
  sz : base ≤ W.heap.size
theorem OB.below {w0 w W W' : World} {bc gc gn ga bk bo base n : Nat} {nd : List Nd} {al : List Int} {vals : List Value} {out : List (List Nat)} (h : OB w0 w bc gc gn ga bk bo base n nd al vals out W) (hb : Below W.heap.size W W') : OB w0 w bc gc gn ga bk bo base n nd al vals out W' :=
  ⟨h.hbc.below hb h.hbc.lt, h.hc.below hb, h.hbk.below hb h.hbk.lt, h.hr.below hb, h.b.trans (hb.mono h.b.size), Nat.le_trans h.sz hb.size⟩

def LabelPost (w : World) (gc gn ga n : Nat) (arcs : List (Int × Int)) (pars : List Int) (al : List Int) (e : Ending) (w' : World) : Prop :=
  e = .returned (.tuple #[]) ∧ ∃ nd L, CovS w' gc gn ga n nd al ∧ NdOk n pars nd ∧ LS n arcs pars w.heap.size nd (fun _ => True) L w' ∧ Kpt (· = gn) w w'

def tb28_5.T5 : Bool × List (List Nat × List Nat) := (true, [([], []), ([], []), ([1], [1]), ([], []), ([], []), ([4], [4]), ([3, 5], [3, 5]), ([6], [6]), ([], []), ([8], [8]), ([9], [9]), ([7, 10], [7, 10]), ([0, 2, 0, 1, 2, 3, 4, 5, 6, 7, 8, 9, 10, 11], [0, 2]), ([12, 11, 11, 0, 1, 2, 3, 4, 5, 6, 7, 8, 9, 10, 11], [11, 12])])
def tb28_5.B5 : List Nat := [0, 0, 2, 0, 0, 16, 56, 120, 0, 256, 768, 2040, 4095, 8191]
theorem tb28_5.tab5 : rtab .any (opsOf Try.f28 5) = tb28_5.T5 := by kernel_rfl
theorem tb28_5.bits5 : waitsOk tb28_5.T5.2 tb28_5.B5 = true := by kernel_rfl
def tb28_12.T12 : Bool × List (List Nat × List Nat) := (true, [([], []), ([0], [0]), ([1], [1]), ([2], [2]), ([], []), ([4], [4]), ([5], [5]), ([6], [6]), ([7], [7]), ([], []), ([9], [9]), ([10], [10]), ([11], [11]), ([12], [12]), ([3, 8, 13], [3, 8, 13])])
def tb28_12.B12 : List Nat := [0, 1, 3, 7, 0, 16, 48, 112, 240, 0, 512, 1536, 3584, 7680, 16383]
theorem tb28_12.tab12 : rtab .any (opsOf Try.f28 12) = tb28_12.T12 := by kernel_rfl
theorem tb28_12.bits12 : waitsOk tb28_12.T12.2 tb28_12.B12 = true := by kernel_rfl
def tb28_16.T16 : Bool × List (List Nat × List Nat) := (true, [([], []), ([0], [0]), ([1], [1]), ([2], [2]), ([], []), ([4], [4]), ([5], [5]), ([6], [6]), ([], []), ([7, 8], [7, 8]), ([9], [9]), ([10], [10]), ([3, 11], [3, 11])])
def tb28_16.B16 : List Nat := [0, 1, 3, 7, 0, 16, 48, 112, 0, 496, 1008, 2032, 4095]
theorem tb28_16.tab16 : rtab .any (opsOf Try.f28 16) = tb28_16.T16 := by kernel_rfl
theorem tb28_16.bits16 : waitsOk tb28_16.T16.2 tb28_16.B16 = true := by kernel_rfl
set_option maxHeartbeats 16000000 in
set_option maxRecDepth 100000 in
theorem mlabel_calls (w0 w : World) (gc gn ga n ca cv : Nat) (Aa Av : Option Addr) (arcs : List (Int × Int)) (nd : List Nd) (al : List Int) (F : List Nat) (k0 : Nat) (hC : CovS w gc gn ga n nd al) (hb : Below w0.heap.size w0 w) (ha : RdA w0 Aa arcs) (hv : RdI w Av (rng n))
    (hg : w0.heap.size ≤ gn) (hgood : Good n arcs) (htop : Top n arcs F) (hord : orderS (rng n) arcs (sorted (rng n)) k0 = some (0, F.map fun i : Nat => (i : Int))) (hnd : NdOk n (parsOf n arcs) nd) (hn : n ≤ 1000) (hm : arcs.length ≤ 100000) :
    Calls Try.prog 28 #[.pointer (some ⟨gc, 0, none⟩), .slice Av n cv, .slice Aa arcs.length ca] w fun e w' => LabelPost w gc gn ga n arcs (parsOf n arcs) al e w' := by
  have c0 := hC.hc.cell 0 rfl
  have l0 := hC.hc.lt
  have q0 := Nat.ne_of_lt l0
  obtain ⟨m, hlen⟩ : ∃ m, arcs.length = m := ⟨_, rfl⟩
  rw [hlen] at hm ⊢
  have HM := Lib.hid hlen
  have hb' := hb
  have hmk := fun wx => run_make_row' (P := Try.prog) 95 24 (.slice none 0 0) 24 Try.underlying95 info_ints rfl .i64 .i64 n (by omega) (by omega) wx
  have HX := Lib.hid (And.intro hC (And.intro hb (And.intro ha (And.intro hv (And.intro hg (And.intro hgood (And.intro htop (And.intro hord hnd))))))))
  clear hC hb hb' ha hv hg hgood htop hord hnd hlen
  refine (callsIn_wide (n := 5)).1 ?_
  refine callsIn_of_wp_marks Try.func28 rfl trivial ?_ rfl
  simp only [Try.ntmps28, List.size_toArray, List.length_cons, List.length_nil, Nat.reduceAdd, Nat.reduceSub, Array.replicate_succ, Array.replicate_zero, List.push_toArray, List.append_toArray, List.nil_append, List.cons_append]
  refine wpIn_noP (wpIn_wide.2 ?_)
  go_upto_region 2 with (fail)
  refine gen_loopw (fun W => OB w0 w w.heap.size gc gn ga (w.heap.size + 1 + 1) (w.heap.size + 1) (w.heap.size + 3) n nd al (List.replicate n (.slice none 0 0)) (outU n arcs 0) W) ?_ ?_
  · have hba : Below w.heap.size w (((w.alloc (.cells #[.pointer (some ⟨gc, 0, none⟩)] 23)).alloc (.cells (madeCells #[.slice none 0 0] n) 24)).alloc (.cells #[.slice (some ⟨w.heap.size + 1, 0, none⟩) n n] 95)) :=
      (((Below.refl _ _).alloc (Nat.le_refl _) _).alloc (by simp) _).alloc (by simp; omega) _
    refine ⟨(At.made rfl rfl).al.al, HX.out.1.below hba, At.made (by simp) rfl, ?_, hba, by simp⟩
    rw [outU_zero]
    exact Rws.start (At.made (by simp) (made_rows n)).al
  obtain ⟨bc, hbc⟩ : ∃ bc, w.heap.size = bc := ⟨_, rfl⟩
  obtain ⟨bk, hbk⟩ : ∃ bk, bc + 1 + 1 = bk := ⟨_, rfl⟩
  obtain ⟨bo, hbo⟩ : ∃ bo, bc + 1 = bo := ⟨_, rfl⟩
  obtain ⟨base, hbase⟩ : ∃ base, bc + 3 = base := ⟨_, rfl⟩
  rw [hbc, hbk, hbo, hbase]
  have HBO := Lib.hid (And.intro hbc (And.intro hbk (And.intro hbo hbase)))
  clear hbc hbk hbo hbase hmk c0 l0 q0
  rintro w2 hN
  have HN0 := Lib.hid hN
  clear hN
  go_wp2
  go_loopg [24] m (fun kq v24 w' => ∃ j : Nat, v24 = .int .i64 (j : Int) ∧ Hid (∃ vals, j + kq = m ∧ OB w0 w bc gc gn ga bk bo base n nd al vals (outU n arcs j) w'))
  case atStart => exact ⟨0, rfl, Lib.hid ⟨_, by omega, HN0.out⟩⟩
  case round =>
    clear HN0
    obtain ⟨j, rfl, hI⟩ := hrel
    obtain ⟨vals, hjk, hN⟩ := hI.out
    clear hI
    by_cases hj : j < m
    · obtain ⟨k1, rfl⟩ : ∃ k1, gk = k1 + 1 := ⟨gk - 1, by omega⟩
      have hja : j < arcs.length := by rw [HM.out]; exact hj
      obtain ⟨⟨uz, vz⟩, huv⟩ : ∃ p, arcs[j]? = some p := ⟨_, List.getElem?_eq_getElem hja⟩
      obtain ⟨g1, g2, g3, g4⟩ := HX.out.2.2.2.2.2.1 _ (List.mem_of_getElem? huv)
      dsimp only at g1 g2 g3 g4
      obtain ⟨u, rfl⟩ := Int.eq_ofNat_of_zero_le g1
      obtain ⟨v, rfl⟩ := Int.eq_ofNat_of_zero_le g3
      have hb2 : Below w0.heap.size w0 wr := HX.out.2.1.trans (hN.b.mono HX.out.2.1.size)
      obtain ⟨b, rfl, cu, cv'⟩ := (HX.out.2.2.1.below hb2) j _ _ huv
      have lb := World.block_lt_of_cell? _ _ cu
      dsimp only at lb
      have nb := Nat.ne_of_lt lb
      have j0 : (0 : Int) ≤ (j : Int) := by omega
      have j1 : (j : Int) < (m : Int) := by omega
      have j2 : (m : Int) ≤ 100000 := by omega
      have HN := Lib.hid (And.intro hjk (And.intro hN (And.intro huv (And.intro g2 g4))))
      clear hjk hN huv g1 g2 g3 g4 hj hja hb2
      go_upto_region 5 with (fail)
      refine gen_loopw (fun W => OB w0 w bc gc gn ga bk bo base n nd al vals (outU n arcs j) W ∧ At W wr.heap.size [.int .i64 (u : Int), .int .i64 (v : Int)] 38) ⟨HN.out.2.1.below ((Below.refl _ _).alloc (Nat.le_refl _) _), At.made rfl rfl⟩ ?_
      have hab' := HN.out.2.1.sz
      obtain ⟨ab, hab⟩ : ∃ ab, wr.heap.size = ab := ⟨_, rfl⟩
      rw [hab] at hab' ⊢
      clear cu cv' lb nb hab
      rintro W ⟨hN, hA⟩
      have hun : u < n := by have := HN.out.2.2.2.1; omega
      obtain ⟨r, hr⟩ : ∃ r, (outU n arcs j)[u]? = some r := ⟨_, List.getElem?_eq_getElem (by rw [outU_length]; exact hun)⟩
      obtain ⟨vl, hvl⟩ : ∃ vl, vals[u]? = some vl := ⟨_, List.getElem?_eq_getElem (by rw [hN.hr.lv]; exact hun)⟩
      have hrow := hN.hr.own u vl r hvl hr
      obtain ⟨A2, c2, rfl⟩ := Lw.own_slice hrow
      have hrl := outU_short hr
      have d1 := hN.hbk.cell 0 rfl
      have d2 := hA.cell 0 rfl
      have d4 := hA.cell 1 rfl
      have d3 := hN.hr.hat.cell u hvl
      have fd := hN.hr.hat.free u
      have i0' : (0 : Int) ≤ (u : Int) := by omega
      have i1' : (u : Int) < (n : Int) := by omega
      have i2' : (n : Int) ≤ 1000 := by omega
      have hrl' : r.length ≤ 100000 := by omega
      obtain ⟨i0, hi0, hz0, hz1, hz2⟩ := info_parts Scc.info_int
      have HK := Lib.hid (And.intro hN.hbk (And.intro hA hN.hr))
      have HVL := Lib.hid hvl
      have HRR := Lib.hid hr
      have HRW := Lib.hid hrow
      have HSZ := Lib.hid hN.sz
      have HNW := Lib.hid (And.intro hN (And.intro hrl hun))
      clear hN hA hr hvl hrow hrl hun
      refine start_ (n := 14) (S := fun w' => w'.cell? ⟨bk, 0, none⟩ = some (.slice (some ⟨bo, 0, none⟩) n n) ∧ w'.cell? ⟨ab, 0, none⟩ = some (.int .i64 (u : Int)) ∧ w'.cell? ⟨ab, 1, none⟩ = some (.int .i64 (v : Int)) ∧ w'.cell? ⟨bo, u, none⟩ = some (.slice A2 r.length c2)) (ds := [13]) (bA 14 0) (by kernel_rfl) rfl rfl ⟨d1, d2, d4, d3⟩ (fun hHeld => ?_)
      refine with_tabW tb28_5.tab5 tb28_5.bits5 (fun HT_ HW_ => ?_)
      refine pure_ (i := 1) (N := some 29) (v := ?_) (a' := ?_) (bA 14 2) rfl rfl (any_of HT_.out (by kernel_rfl)) (fun _ _ _ h => h) (Or.inl ⟨by rfl, ?_⟩) ?_ ?_
      rotate_left; · intro w'; go_simp; with_reducible rfl
      rotate_left; · simp only [Act.put, pA, pB, pC, pD, pE]; rfl
      refine pure_ (i := 4) (N := some 32) (v := ?_) (a' := ?_) (bA 14 18) rfl rfl (any_of HT_.out (by kernel_rfl)) (fun _ _ _ h => h) (Or.inl ⟨by rfl, ?_⟩) ?_ ?_
      rotate_left; · intro w'; go_simp; with_reducible rfl
      rotate_left; · simp only [Act.put, pA, pB, pC, pD, pE]; rfl
      refine pure_ (i := 8) (N := some 36) (v := ?_) (a' := ?_) (bA 14 274) rfl rfl (any_of HT_.out (by kernel_rfl)) (fun _ _ _ h => h) (Or.inl ⟨by rfl, ?_⟩) ?_ ?_
      rotate_left; · intro w'; go_simp; with_reducible rfl
      rotate_left; · simp only [Act.put, pA, pB, pC, pD, pE]; rfl
      refine take_ (i := 0) (N := some 28) (v := ?_) (a' := ?_) (bA 14 275) rfl rfl (take_ofW HT_.out HW_.out (by kernel_rfl)) (fun _ _ _ h => h) (Or.inl ⟨by rfl, ?_⟩) hHeld ?_ ?_
      rotate_left
      · rintro w' ⟨s0, s1, s2, s3⟩
        go_simp; with_reducible rfl
      rotate_left; · simp only [Act.put, pA, pB, pC, pD, pE]; rfl
      refine take_ (i := 2) (N := some 30) (v := ?_) (a' := ?_) (bA 14 279) rfl rfl (take_ofW HT_.out HW_.out (by kernel_rfl)) (fun _ _ _ h => h) (Or.inl ⟨by rfl, ?_⟩) hHeld ?_ ?_
      rotate_left
      · rintro w' ⟨s0, s1, s2, s3⟩
        go_simp; with_reducible rfl
      rotate_left; · simp only [Act.put, pA, pB, pC, pD, pE]; rfl
      refine take_ (i := 3) (N := some 31) (v := ?_) (a' := ?_) (bA 14 287) rfl rfl (take_ofW HT_.out HW_.out (by kernel_rfl)) (fun _ _ _ h => h) (Or.inl ⟨by rfl, ?_⟩) hHeld ?_ ?_
      rotate_left
      · rintro w' ⟨s0, s1, s2, s3⟩
        go_simp; with_reducible rfl
      rotate_left; · simp only [Act.put, pA, pB, pC, pD, pE]; rfl
      refine take_ (i := 5) (N := some 33) (v := ?_) (a' := ?_) (bA 14 319) rfl rfl (take_ofW HT_.out HW_.out (by kernel_rfl)) (fun _ _ _ h => h) (Or.inl ⟨by rfl, ?_⟩) hHeld ?_ ?_
      rotate_left
      · rintro w' ⟨s0, s1, s2, s3⟩
        go_simp; with_reducible rfl
      rotate_left; · simp only [Act.put, pA, pB, pC, pD, pE]; rfl
      refine pure_ (i := 6) (N := some 34) (v := ?_) (a' := ?_) (bA 14 383) rfl rfl (any_of HT_.out (by kernel_rfl)) (fun _ _ _ h => h) (Or.inl ⟨by rfl, ?_⟩) ?_ ?_
      rotate_left; · intro w'; go_simp; with_reducible rfl
      rotate_left; · simp only [Act.put, pA, pB, pC, pD, pE]; rfl
      refine take_ (i := 7) (N := some 35) (v := ?_) (a' := ?_) (bA 14 511) rfl rfl (take_ofW HT_.out HW_.out (by kernel_rfl)) (fun _ _ _ h => h) (Or.inl ⟨by rfl, ?_⟩) hHeld ?_ ?_
      rotate_left
      · rintro w' ⟨s0, s1, s2, s3⟩
        go_simp; with_reducible rfl
      rotate_left; · simp only [Act.put, pA, pB, pC, pD, pE]; rfl
      refine take_ (i := 9) (N := some 37) (v := ?_) (a' := ?_) (bA 14 1023) rfl rfl (take_ofW HT_.out HW_.out (by kernel_rfl)) (fun _ _ _ h => h) (Or.inl ⟨by rfl, ?_⟩) hHeld ?_ ?_
      rotate_left
      · rintro w' ⟨s0, s1, s2, s3⟩
        go_simp; with_reducible rfl
      rotate_left; · simp only [Act.put, pA, pB, pC, pD, pE]; rfl
      refine one_ (i := 10) (N := some 38) (bA 14 2047) rfl rfl (one_of HT_.out (by kernel_rfl)) (by decide) (fun K hK => ?_)
      refine value_ (w1 := ?_) (v := ?_) (by rfl) rfl ?_ ?_
      rotate_left 2
      · go_simp
        constructor
        · rfl
        · rfl
      refine hK.out _ _ ⟨(HK.out.1.al.drew.cell 0 rfl), (HK.out.2.1.al.drew.cell 0 rfl), (HK.out.2.1.al.drew.cell 1 rfl), (HK.out.2.2.hat.al.drew.cell u HVL.out)⟩ (fun hHeld => ?_)
      clear hK K
      refine norm_ (a' := ?_) ?_ ?_
      rotate_left
      · show Act.put _ (some 38) _ = _
        simp only [Act.put, pA, pB, pC, pD, pE]; rfl
      refine one_ (i := 11) (N := some 39) (bA 14 4095) rfl rfl (one_of HT_.out (by kernel_rfl)) (by decide) (fun K hK => ?_)
      refine step_append_lies _ (by rfl) (.tmp 35) (.tmp 38) 24 (by rfl) base 3 i0 (.int .i64 0) 1 8 Try.underlying24 hi0 hz0 hz1 hz2 rfl (by omega) _ r.length (nats r) (by rfl) ((HRW.out.alloc _).drew) ⟨W.heap.size, 0, none⟩ 1 1 [.int .i64 (v : Int)] (by rfl) rfl (cell_one_new _ _ _) (by simp [Value.oneCell']) (by omega) (by unfold maxLen; omega) (by omega) (by have := HSZ.out; simp; omega) _ rfl ?_
      intro g cap w1 hown hgrow hat hlt
      have hk1 := HK.out.1.al.drew.grown hgrow (own_off HRW.out HK.out.1 (by decide))
      have hx1 := HK.out.2.1.al.drew.grown hgrow (own_off HRW.out HK.out.2.1 (by decide))
      have hr1 := HK.out.2.2.hat.al.drew.grown hgrow (own_off HRW.out HK.out.2.2.hat (by decide))
      have fr1 := hr1.free u
      have cr1 := hr1.cell u HVL.out
      have HK3 := Lib.hid (And.intro hk1 (And.intro hx1 hr1)); have HGR := Lib.hid hgrow; have HOW := Lib.hid hown; have HAT := Lib.hid hat; clear hk1 hx1 hr1 hgrow hown hat
      refine hK.out _ _ ⟨(HK3.out.1.cell 0 rfl), (HK3.out.2.1.cell 0 rfl), (HK3.out.2.1.cell 1 rfl), (HK3.out.2.2.cell u HVL.out)⟩ (fun hHeld => ?_)
      clear hK K
      refine norm_ (a' := ?_) ?_ ?_
      rotate_left
      · show Act.put _ (some 39) _ = _
        simp only [Act.put, pA, pB, pC, pD, pE]; rfl
      refine pure_ (i := 12) (N := some 40) (v := ?_) (a' := ?_) (bA 14 8191) rfl rfl (any_of HT_.out (by kernel_rfl)) (fun _ _ _ h => h) (Or.inl ⟨by rfl, ?_⟩) ?_ ?_
      rotate_left; · intro w'; go_simp; with_reducible rfl
      rotate_left; · simp only [Act.put, pA, pB, pC, pD, pE]; rfl
      refine last_ (i := 13) (N := none) (bA 14 16383) rfl rfl (one_of HT_.out (by kernel_rfl)) (by decide) (fun K hK => ?_)
      refine skip_ (w1 := ?_) (by rfl) rfl ?_ ?_
      rotate_left; · go_simp; rfl
      refine hK.out _ _ ?_; clear hK K
      refine done_ (done_of HT_.out (by kernel_rfl)) ?_
      clear hHeld HT_ HW_; clear d1 d2 d3 d4 fd fr1 cr1
      refine gen_q (fun W' => ∃ vals', OB w0 w bc gc gn ga bk bo base n nd al vals' (outU n arcs (j + 1)) W') ?_ ?_
      · have hba : Below W.heap.size W ((W.alloc (.cells #[.int .i64 (v : Int)] 3)).drew) := ((Below.refl _ _).alloc (Nat.le_refl _) _).drew
        have hrA := HK.out.2.2.below hba
        have ho1 := HOW.out
        rw [nats_snoc] at ho1
        obtain ⟨e1, e2, e3, e4⟩ := HBO.out
        have hps := hrA.push (x := v) HVL.out HRR.out (by omega) HGR.out ho1 HAT.out
        rw [outU_succ HN.out.2.2.1 HNW.out.2.2 HRR.out]
        have hNa := HNW.out.1.below hba
        have hHR := HRW.out
        have hbt := HK3.out.2.2
        have hsg := HGR.out.size
        have hCl := HX.out.1.ha.lt
        have hsz := HSZ.out
        refine ⟨_, ⟨(hNa.hbc.grown HGR.out (own_off hHR HNW.out.1.hbc (by decide))).off ?_, ⟨(hNa.hc.hc.grown HGR.out (own_off hHR HNW.out.1.hc.hc (by decide))).off ?_, (hNa.hc.hn.grown HGR.out (own_off hHR HNW.out.1.hc.hn (by decide))).off ?_, (hNa.hc.ha.grown HGR.out (own_under hHR (by omega))).off ?_, hNa.hc.ln, hNa.hc.la⟩, HK3.out.1.off ?_, hps, (hNa.b.grown HGR.out hNa.b.size fun k hk => by have := (hHR.lt k hk).1; omega).setCell (by dsimp only; omega) _, by simp at hsg ⊢; omega⟩⟩
        · exact (hNa.hbc.grown HGR.out (own_off hHR HNW.out.1.hbc (by decide))).ne hbt (by decide)
        · exact (hNa.hc.hc.grown HGR.out (own_off hHR HNW.out.1.hc.hc (by decide))).ne hbt (by decide)
        · exact (hNa.hc.hn.grown HGR.out (own_off hHR HNW.out.1.hc.hn (by decide))).ne hbt (by decide)
        · omega
        · exact HK3.out.1.ne hbt (by decide)
      rintro W' ⟨vals', hF⟩
      have HF := Lib.hid hF
      clear hF
      go_wp2
      go_roundg k1
      case measure => omega
      case rel => exact ⟨j + 1, by go_num, Lib.hid ⟨vals', by have := HN.out.1; omega, HF.out⟩⟩
    · obtain rfl : m = j := by omega
      rw [← HM.out] at hN
      clear hj hjk
      have HN := Lib.hid hN
      clear hN
      have hb2 : Below w0.heap.size w0 wr := HX.out.2.1.trans (HN.out.b.mono HX.out.2.1.size)
      have hO := order_own_row wr Av Aa cv ca (rng n) arcs (HX.out.2.2.2.1.below HN.out.b) (HX.out.2.2.1.below hb2) (by rw [rng_length]; omega) (by rw [HM.out]; omega) k0 0 (castF F) HX.out.2.2.2.2.2.2.2.1 (fun h => absurd rfl h)
      have hfl : (castF F).length = n := by rw [castF_length]; exact HX.out.2.2.2.2.2.2.1.len
      rw [rng_length, HM.out, hfl] at hO
      have HO := Lib.hid hO
      have HFL := Lib.hid hfl
      clear hO hb2 hfl
      go_wp2_with fail
      refine HO.out.mono ?_
      rintro e w3 ⟨A3, c3, rfl, hrd, hb3⟩
      have H3 := Lib.hid (And.intro (RdZ.of_own hrd) hb3)
      clear hrd hb3 HO
      go_wp2_with fail
      refine (back_calls A3 n c3 w3).mono ?_
      rintro e w4 ⟨rfl, hw4⟩
      rw [hw4]
      clear hw4
      go_wp2_with fail
      have hb4 : Below wr.heap.size wr (w3.alloc (.cells #[.slice A3 n c3] 24)) := H3.out.2.alloc H3.out.2.size _
      have hBs0 : At (w3.alloc (.cells #[.slice A3 n c3] 24)) w3.heap.size [.slice A3 n c3] 24 := At.made rfl rfl
      have hrd4 : castF F = [] ∨ ∃ b, A3 = some ⟨b, 0, none⟩ ∧ b < (w3.alloc (.cells #[.slice A3 n c3] 24)).heap.size ∧ RdZ (w3.alloc (.cells #[.slice A3 n c3] 24)) b (castF F) :=
        H3.out.1.imp id fun ⟨b, e1, e2, e3, e4⟩ => ⟨b, e1, by simp; omega, e4.kept ((Kpt.refl (fun _ => False) _).alloc _) id⟩
      have hO4 := HN.out.below hb4
      obtain ⟨Bs, hBs⟩ : ∃ Bs, w3.heap.size = Bs := ⟨_, rfl⟩
      obtain ⟨w4, hw4⟩ : ∃ w4, w3.alloc (.cells #[.slice A3 n c3] 24) = w4 := ⟨_, rfl⟩
      rw [hBs] at hBs0 ⊢
      rw [hw4] at hBs0 hrd4 hO4 ⊢
      clear hw4 hb4 hBs H3 HN
      have hLI0 : LI n gc gn ga bc bk bo al (outU n arcs arcs.length) vals w4 := by
        have h2 := rows_env (bx := w4.heap.size) hO4.hr (show 0 < base by have := HBO.out; omega) (Nat.le_refl _)
        refine ⟨hO4.hbc, hO4.hc.hc, hO4.hc.ha, hO4.hbk, hO4.hr.hat, fun u r hr => ?_, outU_length _ _ _, hO4.hc.la⟩
        obtain ⟨A, c, e1, e2⟩ := h2 u r hr
        refine ⟨A, c, e1, e2.imp id ?_⟩
        rintro ⟨b, cs, f1, f2, f3, f4, f5⟩
        exact ⟨b, cs, f1, f2, f5⟩
      have hgn4 := hO4.hc.hn
      have hgl := hgn4.lt
      have hb4 := hO4.b
      have HW4 := Lib.hid (And.intro hBs0 (And.intro hrd4 (And.intro hLI0 (And.intro hgn4 hb4))))
      have hbl := hBs0.lt
      have hbne : Bs ≠ gn := hBs0.ne hgn4 (by decide)
      have hrd5 : castF F = [] ∨ ∃ b, A3 = some ⟨b, 0, none⟩ ∧ ¬ (b = gn ∨ w4.heap.size ≤ b) ∧ RdZ w4 b (castF F) := by
        rcases hrd4 with h | ⟨b, e1, e2, e3⟩
        · exact .inl h
        · refine .inr ⟨b, e1, ?_, e3⟩
          obtain ⟨cs, h1, _⟩ := e3
          rintro (h | h)
          · exact h1.ne hgn4 (by decide) h
          · omega
      clear hBs0 hrd4 hLI0 hgn4 hb4 hO4
      refine wpIn_wide (n := 5).1 ?_
      let p : Nat → Prop := fun k => k = gn ∨ w4.heap.size ≤ k
      refine range_next (n := 5) (by omega) (gf := 64) (lb := #[.pointer (some ⟨Bs, 0, none⟩)]) rfl (enters_of Try.func64 (by kernel_rfl) rfl)
        (encs := fun x : Nat × Int => #[Value.int .i64 (x.1 : Int), Value.int .i64 x.2]) (p := p) (fun k hk => .inr hk) (Nx := BackNext (castF F)) (S := fun ys => ys = bwd (castF F) (castF F).length)
        ?hseq (fun _ => rfl)
        (fun pre W => ∃ nd1 L1, LI n gc gn ga bc bk bo al (outU n arcs arcs.length) vals W ∧ At W gn (nds nd1) 62 ∧ NdOk n (parsOf n arcs) nd1 ∧ LS n arcs (parsOf n arcs) w4.heap.size nd1 (fun v => ∃ x ∈ pre, x.2 = (v : Int)) L1 W ∧ Kpt p w4 W)
        ?hI ?h0 (fun x => { tmps := #[.pointer (some ⟨gc, 0, none⟩), .slice Av n cv, .slice Aa m ca, .pointer (some ⟨bc, 0, none⟩), undef, undef, .pointer (some ⟨bk, 0, none⟩), undef, u8, .slice A3 n c3, .int .i64 0, undef, .int .i64 x.2, undef, undef, undef, .pointer (some ⟨gc, 0, none⟩), .pointer (some ⟨gc, 0, none⟩), .pointer (some ⟨gc, 0, none⟩), .slice (some ⟨gn, 0, none⟩) n n, .int .i64 (n : Int), .slice (some ⟨bo, 0, none⟩) n n, .slice Aa m ca, .int .i64 (m : Int), .int .i64 (m : Int), .bool false, u26, u27, u28, u29, u30, u31, u32, u33, u34, u35, u36, u37, u38, u39, u40, u41, .tuple #[.slice A3 n c3, .int .i64 0], .slice Av n cv, .slice Aa m ca, .tuple #[.slice A3 n c3, .int .i64 0], .slice A3 n c3, .int .i64 0, .slice A3 n c3, .func (.func 64) #[] #[.pointer (some ⟨Bs, 0, none⟩)], .int .i64 (x.1 : Int), .int .i64 x.2, undef, undef, undef, undef, undef, undef, undef, undef, undef, undef, undef, undef, undef, undef, undef, undef, undef, undef, undef, undef, undef, undef, undef, undef, undef, undef, undef, undef, undef, undef, undef, undef, undef, undef, undef, undef, undef, undef, undef, undef, undef, undef, undef, undef, undef, undef, undef, undef], defers := [] }) ?assign ?body ?done
      case hseq =>
        intro l J W hW hY hJ0
        have h1 := back1_in 4 l Bs c3 A3 (castF F) p (by rw [HFL.out]; omega) J W hY
        rw [HFL.out] at h1
        refine (h1 (HW4.out.1.below hW HW4.out.1.lt) (by rintro (h | h) <;> omega) ?_ hJ0).mono fun e W' h => by rw [HFL.out]; exact h
        exact hrd5.imp id fun ⟨b, e1, e2, e3⟩ => ⟨b, e1, e2, e3.kept (Kpt.of_below (p := fun _ => False) hW) id⟩
      case hI =>
        rintro pre W W' row ⟨nd1, L1, h1, h2, h3, h4, h5⟩ hg hr
        have hk := kpt_turn hg hr
        exact ⟨nd1, L1, h1.turn hk, h2.kept hk (h2.nc _), h3, h4.turn hk, h5.trans' hk fun i _ hn => .inr hn.1⟩
      case h0 =>
        exact ⟨nd, fun _ => [], HW4.out.2.2.1, HW4.out.2.2.2.1, HX.out.2.2.2.2.2.2.2.2, ⟨fun v _ h => by obtain ⟨_, h, _⟩ := h; simp at h, fun v v' x x' g _ _ h => by obtain ⟨_, h, _⟩ := h; simp at h⟩, Kpt.refl _ _⟩
      case assign =>
        intro l x W K hK
        gi_wp2
        exact hK
      case body =>
        rintro l pre x W ⟨nd1, L1, hLI, hgn, hNd, hLS, hk⟩ ⟨q, hq, rfl, hx1, hx2⟩
        obtain ⟨v, hv, hxv⟩ := castF_of hx2
        dsimp only
        rw [hxv]
        obtain ⟨jx, hjx⟩ : ∃ jx, x.1 = jx := ⟨_, rfl⟩
        rw [hjx]
        have hvn : v < n := HX.out.2.2.2.2.2.2.1.lt v (List.mem_of_getElem? hv)
        have hq' : q < F.length := by rw [castF_length] at hq; exact hq
        have hv' : F[F.length - 1 - q]? = some v := by rw [castF_length] at hx1; rw [← hx1]; exact hv
        have hnc : ¬ ∃ x ∈ bwd (castF F) q, x.2 = (v : Int) := came_not HX.out.2.2.2.2.2.2.1 hq' hv'
        obtain ⟨xv, hxv4⟩ : ∃ xv, nd1[v]? = some xv := ⟨_, List.getElem?_eq_getElem (by rw [hNd.1]; exact hvn)⟩
        obtain ⟨n1, n2, n3, n4⟩ := nds_at nd1 v xv hxv4
        obtain ⟨e1, e2, e3⟩ := hNd.2 v xv hxv4
        have c0 := hLI.hbc.cell 0 rfl
        have c1 := hLI.hgc.cell 0 rfl
        have d3 := hgn.cell _ n4
        have f3 := hgn.free (v * 4 + 3)
        have v0 : (0 : Int) ≤ (v : Int) := by omega
        have v1 : (v : Int) < (n : Int) := by omega
        have v2 : (n : Int) ≤ 1000 := by omega
        have lgn := hgn.lt
        have qgn := Nat.ne_of_lt lgn
        have HB := Lib.hid (And.intro hLI (And.intro hgn (And.intro hNd (And.intro hLS (And.intro hk (And.intro hq' (And.intro hv' (And.intro hnc hxv4))))))))
        have HB2 := Lib.hid (And.intro hx1 (And.intro hxv (And.intro hjx hvn)))
        clear hLI hgn hNd hLS hk hq hx1 hx2 hv hxv hjx hvn hq' hv' hnc hxv4 n1 n2 n3 n4 e1 e2 e3
        gi_wp2_with fail
        refine ⟨trivial, (CallsIn.inRound l (callsIn_wide.2 (new_calls _))).mono ?_⟩
        rintro e w' ⟨rfl, hw'⟩
        rw [hw']
        clear hw'
        gi_wp2_with fail
        refine gen_in (fun W2 => LI n gc gn ga bc bk bo al (outU n arcs arcs.length) vals W2 ∧ At W2 gn (nds (nd1.set v { xv with lab := some W.heap.size })) 62 ∧ LS n arcs (parsOf n arcs) w4.heap.size (nd1.set v { xv with lab := some W.heap.size }) (fun v => ∃ x ∈ bwd (castF F) q, x.2 = (v : Int)) L1 W2 ∧ SetAt W2 W.heap.size [] ∧ Kpt (· = gn) W W2) ?_ ?_
        · obtain ⟨hLI, hgn, hNd, hLS, hk, hq', hv', hnc, hxv4⟩ := HB.out
          have hks : Kpt (· = gn) W (W.setCell ⟨gn, v * 4 + 3, none⟩ (.pointer (some ⟨W.heap.size, 0, none⟩))) := (Kpt.refl (· = gn) _).set (fun _ => rfl) _
          have hss : (W.setCell ⟨gn, v * 4 + 3, none⟩ (.pointer (some ⟨W.heap.size, 0, none⟩))).heap.size = W.heap.size := by simp
          have hns := new_set (W.setCell ⟨gn, v * 4 + 3, none⟩ (.pointer (some ⟨W.heap.size, 0, none⟩)))
          rw [hss] at hns
          have hba : ∀ (X : World), Below X.heap.size X (X.alloc (.cells #[.slice none 0 0] 108)) := fun X => (Below.refl _ _).alloc (Nat.le_refl _) _
          have hgp := hgn.put (nds_set nd1 v 3 (.pointer (some ⟨W.heap.size, 0, none⟩)) xv { xv with lab := some W.heap.size } hxv4 (by omega) rfl).symm
          exact ⟨(hLI.beside hks hgn (.inl rfl)).below (hba _), hgp.al, ((hLS.other hxv4 hnc).node hks hgn).below (hba _), hns, hks.below (hba _)⟩
        have hwl : w4.heap.size ≤ W.heap.size := HB.out.2.2.2.2.1.size
        have hLSg : ∀ (u : Nat) (y : Nd), u < n → (∃ x ∈ bwd (castF F) q, x.2 = (u : Int)) → (nd1.set v { xv with lab := some W.heap.size })[u]? = some y → y.lab ≠ some W.heap.size := by
          obtain ⟨hLI, hgn, hNd, hLS, hk, hq', hv', hnc, hxv4⟩ := HB.out
          intro u y hu hc hy he
          obtain ⟨y2, g2, f1, f2, f3, f4, f5⟩ := (hLS.other (g := W.heap.size) hxv4 hnc).sets u hu hc
          obtain rfl : y = y2 := Option.some.inj (hy.symm.trans f1)
          obtain rfl : W.heap.size = g2 := Option.some.inj (he.symm.trans f2)
          have := f4.lt
          omega
        obtain ⟨g, hg⟩ : ∃ g, W.heap.size = g := ⟨_, rfl⟩
        rw [hg] at hwl hLSg ⊢
        have HG := Lib.hid (And.intro hg (And.intro hwl hLSg))
        clear hwl hLSg hg c0 c1 d3 f3 lgn qgn
        rintro W2 ⟨hLI, hgn, hLS, hS, hk⟩
        have hxs : (nd1.set v { xv with lab := some g })[v]? = some { xv with lab := some g } := List.getElem?_set_self (List.getElem?_eq_some_iff.1 HB.out.2.2.2.2.2.2.2.2).1
        obtain ⟨n1, n2, n3, n4⟩ := nds_at _ v _ hxs
        obtain ⟨e1, e2, e3⟩ := HB.out.2.2.1.2 v xv HB.out.2.2.2.2.2.2.2.2
        dsimp only at n1 n2 n3 n4
        have hrk := HX.out.2.2.2.2.2.2.1.rk HX.out.2.2.2.2.2.1
        obtain ⟨p1, p2, p3, p4⟩ := low_post hrk HB2.out.2.2.2
        have p5 := (post_of hrk HB2.out.2.2.2).2.2
        obtain ⟨lo, hlo⟩ : ∃ lo : Int, (lowN (parsOf n arcs) v : Int) = lo := ⟨_, rfl⟩
        obtain ⟨po, hpo⟩ : ∃ po : Int, (postN (parsOf n arcs) v : Int) = po := ⟨_, rfl⟩
        have d1 := hgn.cell _ n2
        have d2 := hgn.cell _ n3
        rw [e2, hpo] at d1
        rw [e3, hlo] at d2
        have d3 := hgn.cell _ n4
        unfold labV at d3
        dsimp only at d3
        have hwa : Calls Try.prog 41 #[.pointer (some ⟨g, 0, none⟩), .int .i32 (wrap32 lo), .int .i32 (wrap32 po)] W2.drew fun e w' => e = .returned (.bool (!holdsB [] lo po)) ∧ SetAt w' g (addR [] lo po) ∧ Kpt (· = g) W2.drew w' := by
          rw [show wrap32 lo = lo by unfold wrap32; omega, show wrap32 po = po by unfold wrap32; omega]
          exact add_calls W2.drew g lo po [] hS Ok.nil (by omega) (by omega) (by omega)
        have HAD := Lib.hid hwa
        have hmid := LabMid.start (arcs := arcs) hrk hn HB2.out.2.2.2
        rw [hlo, hpo] at hmid
        have HC := Lib.hid (And.intro hLI (And.intro hgn (And.intro hLS (And.intro hS (And.intro hk (And.intro hxs hmid))))))
        clear hwa hLI hgn hLS hS hk hxs hmid n1 n2 n3 n4 e1 e2 e3 hrk p1 p2 p3 p4 p5 hlo hpo
        refine startIn_ (by kernel_rfl) (by rintro ⟨_, _, h⟩; exact h) (n := 15) (S := fun w' => w'.cell? ⟨gn, v * 4 + 3, none⟩ = some (.pointer (some ⟨g, 0, none⟩)) ∧ w'.cell? ⟨gn, v * 4 + 2, none⟩ = some (.int .i64 lo) ∧ w'.cell? ⟨gn, v * 4 + 1, none⟩ = some (.int .i64 po)) (ds := [14]) (bA 15 0) (by kernel_rfl) rfl rfl ⟨d3, d2, d1⟩ (fun hHeld => ?_)
        refine with_tabW tb28_12.tab12 tb28_12.bits12 (fun HT_ HW_ => ?_)
        refine pure_ (i := 0) (N := some 62) (v := ?_) (a' := ?_) (bA 15 1) rfl rfl (any_of HT_.out (by kernel_rfl)) (fun _ _ _ h => h) (Or.inl ⟨by rfl, ?_⟩) ?_ ?_
        rotate_left; · intro w'; go_simp; with_reducible rfl
        rotate_left; · simp only [Act.put, pA, pB, pC, pD, pE]; rfl
        refine pure_ (i := 1) (N := some 63) (v := ?_) (a' := ?_) (bA 15 3) rfl rfl (any_of HT_.out (by kernel_rfl)) (fun _ _ _ h => h) (Or.inl ⟨by rfl, ?_⟩) ?_ ?_
        rotate_left; · intro w'; go_simp; with_reducible rfl
        rotate_left; · simp only [Act.put, pA, pB, pC, pD, pE]; rfl
        refine pure_ (i := 2) (N := some 64) (v := ?_) (a' := ?_) (bA 15 7) rfl rfl (any_of HT_.out (by kernel_rfl)) (fun _ _ _ h => h) (Or.inl ⟨by rfl, ?_⟩) ?_ ?_
        rotate_left; · intro w'; go_simp; with_reducible rfl
        rotate_left; · simp only [Act.put, pA, pB, pC, pD, pE]; rfl
        refine pure_ (i := 4) (N := some 66) (v := ?_) (a' := ?_) (bA 15 23) rfl rfl (any_of HT_.out (by kernel_rfl)) (fun _ _ _ h => h) (Or.inl ⟨by rfl, ?_⟩) ?_ ?_
        rotate_left; · intro w'; go_simp; with_reducible rfl
        rotate_left; · simp only [Act.put, pA, pB, pC, pD, pE]; rfl
        refine pure_ (i := 5) (N := some 67) (v := ?_) (a' := ?_) (bA 15 55) rfl rfl (any_of HT_.out (by kernel_rfl)) (fun _ _ _ h => h) (Or.inl ⟨by rfl, ?_⟩) ?_ ?_
        rotate_left; · intro w'; go_simp; with_reducible rfl
        rotate_left; · simp only [Act.put, pA, pB, pC, pD, pE]; rfl
        refine pure_ (i := 6) (N := some 68) (v := ?_) (a' := ?_) (bA 15 119) rfl rfl (any_of HT_.out (by kernel_rfl)) (fun _ _ _ h => h) (Or.inl ⟨by rfl, ?_⟩) ?_ ?_
        rotate_left; · intro w'; go_simp; with_reducible rfl
        rotate_left; · simp only [Act.put, pA, pB, pC, pD, pE]; rfl
        refine pure_ (i := 9) (N := some 71) (v := ?_) (a' := ?_) (bA 15 631) rfl rfl (any_of HT_.out (by kernel_rfl)) (fun _ _ _ h => h) (Or.inl ⟨by rfl, ?_⟩) ?_ ?_
        rotate_left; · intro w'; go_simp; with_reducible rfl
        rotate_left; · simp only [Act.put, pA, pB, pC, pD, pE]; rfl
        refine pure_ (i := 10) (N := some 72) (v := ?_) (a' := ?_) (bA 15 1655) rfl rfl (any_of HT_.out (by kernel_rfl)) (fun _ _ _ h => h) (Or.inl ⟨by rfl, ?_⟩) ?_ ?_
        rotate_left; · intro w'; go_simp; with_reducible rfl
        rotate_left; · simp only [Act.put, pA, pB, pC, pD, pE]; rfl
        refine pure_ (i := 11) (N := some 73) (v := ?_) (a' := ?_) (bA 15 3703) rfl rfl (any_of HT_.out (by kernel_rfl)) (fun _ _ _ h => h) (Or.inl ⟨by rfl, ?_⟩) ?_ ?_
        rotate_left; · intro w'; go_simp; with_reducible rfl
        rotate_left; · simp only [Act.put, pA, pB, pC, pD, pE]; rfl
        refine take_ (i := 3) (N := some 65) (v := ?_) (a' := ?_) (bA 15 3711) rfl rfl (take_ofW HT_.out HW_.out (by kernel_rfl)) (fun _ _ _ h => h) (Or.inl ⟨by rfl, ?_⟩) hHeld ?_ ?_
        rotate_left
        · rintro w' ⟨s0, s1, s2⟩
          go_simp; with_reducible rfl
        rotate_left; · simp only [Act.put, pA, pB, pC, pD, pE]; rfl
        refine take_ (i := 7) (N := some 69) (v := ?_) (a' := ?_) (bA 15 3839) rfl rfl (take_ofW HT_.out HW_.out (by kernel_rfl)) (fun _ _ _ h => h) (Or.inl ⟨by rfl, ?_⟩) hHeld ?_ ?_
        rotate_left
        · rintro w' ⟨s0, s1, s2⟩
          go_simp; with_reducible rfl
        rotate_left; · simp only [Act.put, pA, pB, pC, pD, pE]; rfl
        refine pure_ (i := 8) (N := some 70) (v := ?_) (a' := ?_) (bA 15 4095) rfl rfl (any_of HT_.out (by kernel_rfl)) (fun _ _ _ h => h) (Or.inl ⟨by rfl, ?_⟩) ?_ ?_
        rotate_left; · intro w'; go_simp; with_reducible rfl
        rotate_left; · simp only [Act.put, pA, pB, pC, pD, pE]; rfl
        refine take_ (i := 12) (N := some 74) (v := ?_) (a' := ?_) (bA 15 8191) rfl rfl (take_ofW HT_.out HW_.out (by kernel_rfl)) (fun _ _ _ h => h) (Or.inl ⟨by rfl, ?_⟩) hHeld ?_ ?_
        rotate_left
        · rintro w' ⟨s0, s1, s2⟩
          go_simp; with_reducible rfl
        rotate_left; · simp only [Act.put, pA, pB, pC, pD, pE]; rfl
        refine pure_ (i := 13) (N := some 75) (v := ?_) (a' := ?_) (bA 15 16383) rfl rfl (any_of HT_.out (by kernel_rfl)) (fun _ _ _ h => h) (Or.inl ⟨by rfl, ?_⟩) ?_ ?_
        rotate_left; · intro w'; go_simp; with_reducible rfl
        rotate_left; · simp only [Act.put, pA, pB, pC, pD, pE]; rfl
        refine last_ (i := 14) (N := some 76) (bA 15 32767) rfl rfl (one_of HT_.out (by kernel_rfl)) (by decide) (fun K hK => ?_)
        refine goes_ Try.func41 (by kernel_rfl) rfl #[.pointer (some ⟨g, 0, none⟩), .int .i32 (wrap32 lo), .int .i32 (wrap32 po)] (by rfl) rfl rfl (by simp only [List.map_toArray, List.map_cons, List.map_nil]; rfl) ?_
        with_reducible refine (HAD.out).mono ?_
        rintro e wa ⟨rfl, hsa, hka⟩
        refine ⟨_, rfl, ?_⟩
        refine hK.out _ _ ?_; clear hK K
        refine norm_ (a' := ?_) ?_ ?_
        rotate_left
        · show Act.put _ (some 76) _ = _
          simp only [Act.put, pA, pB, pC, pD, pE]; rfl
        refine done_ (done_of HT_.out (by kernel_rfl)) ?_
        clear hHeld HT_ HW_
        refine gen_then (fun W3 => LI n gc gn ga bc bk bo al (outU n arcs arcs.length) vals W3 ∧ At W3 gn (nds (nd1.set v { xv with lab := some g })) 62 ∧ LS n arcs (parsOf n arcs) w4.heap.size (nd1.set v { xv with lab := some g }) (fun v => ∃ x ∈ bwd (castF F) q, x.2 = (v : Int)) L1 W3 ∧ SetAt W3 g (addR [] lo po) ∧ Kpt (fun k => k = gn ∨ k = g) W W3) ?_ ?_
        · obtain ⟨hLI, hgn, hLS, hS, hk, hxs, hmid⟩ := HC.out
          obtain ⟨cs, hsat⟩ := SetAt.at hS
          have hkd : Kpt (· = g) W2 wa := ((Kpt.refl (· = g) W2).drew).trans hka
          exact ⟨hLI.beside hkd hsat (.inr rfl), hgn.kept hkd (hgn.ne hsat (by decide)), hLS.beside hkd hsat HG.out.2.2, hsa, (hk.mono fun k _ e => .inl e).trans' hkd fun k _ e => .inr e⟩
        clear d1 d2 d3 hsa hka HAD
        rintro W3 ⟨hLI, hgn, hLS, hS, hk⟩
        obtain ⟨r, hr⟩ : ∃ r, (outU n arcs arcs.length)[v]? = some r := ⟨_, List.getElem?_eq_getElem (by rw [outU_length]; exact HB2.out.2.2.2)⟩
        obtain ⟨Ar, cr, hvr, hrr⟩ := hLI.rows v r hr
        have d0 := hLI.hbk.cell 0 rfl
        have d1 := hLI.hbo.cell v hvr
        have hrl := outU_short hr
        rw [HM.out] at hrl
        obtain ⟨len, hlen⟩ : ∃ len, r.length = len := ⟨_, rfl⟩
        rw [hlen] at d1 hrl
        have HR := Lib.hid (And.intro hr (And.intro hvr (And.intro hlen hrr)))
        have HD := Lib.hid (And.intro hLI (And.intro hgn (And.intro hLS (And.intro hS hk))))
        clear hLI hgn hLS hS hk hr hvr hlen hrr
        gi_wp2_with fail
        clear d0 d1
        gi_loopw [82] (fun v82 W4 => ∃ i : Nat, i ≤ len ∧ v82 = .int .i64 (i : Int) ∧ Hid (∃ l4, LI n gc gn ga bc bk bo al (outU n arcs arcs.length) vals W4 ∧ At W4 gn (nds (nd1.set v { xv with lab := some g })) 62 ∧ LS n arcs (parsOf n arcs) w4.heap.size (nd1.set v { xv with lab := some g }) (fun v => ∃ x ∈ bwd (castF F) q, x.2 = (v : Int)) L1 W4 ∧ SetAt W4 g l4 ∧ LabMid n arcs (parsOf n arcs) v (r.take i) l4 ∧ Kpt (fun k => k = gn ∨ k = g) W W4))
          (fun v82 _ => len - (intOf v82).toNat)
        case atStart => exact ⟨0, Nat.zero_le _, rfl, Lib.hid ⟨_, HD.out.1, HD.out.2.1, HD.out.2.2.1, HD.out.2.2.2.1, by simpa using HC.out.2.2.2.2.2.2, HD.out.2.2.2.2⟩⟩
        case round =>
          clear HD
          obtain ⟨i, hil, rfl, hI⟩ := hrel
          obtain ⟨l4, hLI, hgn, hLS, hS, hmid, hk⟩ := hI.out
          clear hI
          by_cases hi : i < len
          · obtain ⟨y, hy⟩ : ∃ y, r[i]? = some y := ⟨_, List.getElem?_eq_getElem (by rw [HR.out.2.2.1]; exact hi)⟩
            have hEy : EA arcs v y := (outU_mem HX.out.2.2.2.2.2.1 HB2.out.2.2.2 HR.out.1).1 (List.mem_of_getElem? hy)
            have hyn : y < n := (HX.out.2.2.2.2.2.1.lt hEy).2
            have hcy := came_on HX.out.2.2.2.2.2.2.1 HX.out.2.2.2.2.2.1 HB.out.2.2.2.2.2.1 HB.out.2.2.2.2.2.2.1 hEy
            obtain ⟨xy, gy, f1, f2, f3, f4, f5⟩ := hLS.sets y hyn hcy
            obtain ⟨A', c', g1, g2⟩ := hLI.rows v r HR.out.1
            have hAA : A' = Ar ∧ c' = cr := by
              have := g1.symm.trans HR.out.2.1
              cases this
              exact ⟨rfl, rfl⟩
            obtain ⟨rfl, rfl⟩ := hAA
            rcases g2 with h0 | ⟨br, csr, rfl, hbr, hcr⟩
            · rw [h0] at hy
              simp at hy
            have c0 := hbr.cell i (hcr i y hy)
            have hxs := HC.out.2.2.2.2.2.1
            have d3 := hgn.cell _ (nds_at _ v _ hxs).2.2.2
            unfold labV at d3
            dsimp only at d3
            have d5 := hgn.cell _ (nds_at _ y xy f1).2.2.2
            rw [f2] at d5
            unfold labV at d5
            have d0 := hLI.hbc.cell 0 rfl
            have d4 := hLI.hgc.cell 0 rfl
            have i0 : (0 : Int) ≤ (i : Int) := by omega
            have i1 : (i : Int) < (len : Int) := by omega
            have i2 : (len : Int) ≤ 100000 := by omega
            have y0 : (0 : Int) ≤ (y : Int) := by omega
            have y1 : (y : Int) < (n : Int) := by omega
            have hj := join_calls wr.drew g gy l4 (L1 y) hS hmid.1 f4 f5.1
            have HJO := Lib.hid hj
            have HY := Lib.hid (And.intro hLI (And.intro hgn (And.intro hLS (And.intro hS (And.intro hmid (And.intro hk (And.intro hy f5)))))))
            clear hj hLI hgn hLS hS hmid hk hy f5 hEy hyn hcy f1 f2 f3 f4 g1 hbr hcr hxs hil
            gi_wp2_with fail
            refine startIn_ (by kernel_rfl) (by rintro ⟨_, _, h⟩; exact h) (n := 13) (S := fun w' => w'.cell? ⟨gn, v * 4 + 3, none⟩ = some (.pointer (some ⟨g, 0, none⟩)) ∧ w'.cell? ⟨bc, 0, none⟩ = some (.pointer (some ⟨gc, 0, none⟩)) ∧ w'.cell? ⟨gc, 0, none⟩ = some (.slice (some ⟨gn, 0, none⟩) n n) ∧ w'.cell? ⟨gn, y * 4 + 3, none⟩ = some (.pointer (some ⟨gy, 0, none⟩))) (ds := [12]) (bA 13 0) (by kernel_rfl) rfl rfl ⟨d3, d0, d4, d5⟩ (fun hHeld => ?_)
            refine with_tabW tb28_16.tab16 tb28_16.bits16 (fun HT_ HW_ => ?_)
            refine pure_ (i := 0) (N := some 86) (v := ?_) (a' := ?_) (bA 13 1) rfl rfl (any_of HT_.out (by kernel_rfl)) (fun _ _ _ h => h) (Or.inl ⟨by rfl, ?_⟩) ?_ ?_
            rotate_left; · intro w'; go_simp; with_reducible rfl
            rotate_left; · simp only [Act.put, pA, pB, pC, pD, pE]; rfl
            refine pure_ (i := 1) (N := some 87) (v := ?_) (a' := ?_) (bA 13 3) rfl rfl (any_of HT_.out (by kernel_rfl)) (fun _ _ _ h => h) (Or.inl ⟨by rfl, ?_⟩) ?_ ?_
            rotate_left; · intro w'; go_simp; with_reducible rfl
            rotate_left; · simp only [Act.put, pA, pB, pC, pD, pE]; rfl
            refine pure_ (i := 2) (N := some 88) (v := ?_) (a' := ?_) (bA 13 7) rfl rfl (any_of HT_.out (by kernel_rfl)) (fun _ _ _ h => h) (Or.inl ⟨by rfl, ?_⟩) ?_ ?_
            rotate_left; · intro w'; go_simp; with_reducible rfl
            rotate_left; · simp only [Act.put, pA, pB, pC, pD, pE]; rfl
            refine pure_ (i := 8) (N := some 94) (v := ?_) (a' := ?_) (bA 13 263) rfl rfl (any_of HT_.out (by kernel_rfl)) (fun _ _ _ h => h) (Or.inl ⟨by rfl, ?_⟩) ?_ ?_
            rotate_left; · intro w'; go_simp; with_reducible rfl
            rotate_left; · simp only [Act.put, pA, pB, pC, pD, pE]; rfl
            refine take_ (i := 3) (N := some 89) (v := ?_) (a' := ?_) (bA 13 271) rfl rfl (take_ofW HT_.out HW_.out (by kernel_rfl)) (fun _ _ _ h => h) (Or.inl ⟨by rfl, ?_⟩) hHeld ?_ ?_
            rotate_left
            · rintro w' ⟨s0, s1, s2, s3⟩
              go_simp; with_reducible rfl
            rotate_left; · simp only [Act.put, pA, pB, pC, pD, pE]; rfl
            refine take_ (i := 4) (N := some 90) (v := ?_) (a' := ?_) (bA 13 287) rfl rfl (take_ofW HT_.out HW_.out (by kernel_rfl)) (fun _ _ _ h => h) (Or.inl ⟨by rfl, ?_⟩) hHeld ?_ ?_
            rotate_left
            · rintro w' ⟨s0, s1, s2, s3⟩
              go_simp; with_reducible rfl
            rotate_left; · simp only [Act.put, pA, pB, pC, pD, pE]; rfl
            refine pure_ (i := 5) (N := some 91) (v := ?_) (a' := ?_) (bA 13 319) rfl rfl (any_of HT_.out (by kernel_rfl)) (fun _ _ _ h => h) (Or.inl ⟨by rfl, ?_⟩) ?_ ?_
            rotate_left; · intro w'; go_simp; with_reducible rfl
            rotate_left; · simp only [Act.put, pA, pB, pC, pD, pE]; rfl
            refine pure_ (i := 6) (N := some 92) (v := ?_) (a' := ?_) (bA 13 383) rfl rfl (any_of HT_.out (by kernel_rfl)) (fun _ _ _ h => h) (Or.inl ⟨by rfl, ?_⟩) ?_ ?_
            rotate_left; · intro w'; go_simp; with_reducible rfl
            rotate_left; · simp only [Act.put, pA, pB, pC, pD, pE]; rfl
            refine take_ (i := 7) (N := some 93) (v := ?_) (a' := ?_) (bA 13 511) rfl rfl (take_ofW HT_.out HW_.out (by kernel_rfl)) (fun _ _ _ h => h) (Or.inl ⟨by rfl, ?_⟩) hHeld ?_ ?_
            rotate_left
            · rintro w' ⟨s0, s1, s2, s3⟩
              go_simp; with_reducible rfl
            rotate_left; · simp only [Act.put, pA, pB, pC, pD, pE]; rfl
            refine pure_ (i := 9) (N := some 95) (v := ?_) (a' := ?_) (bA 13 1023) rfl rfl (any_of HT_.out (by kernel_rfl)) (fun _ _ _ h => h) (Or.inl ⟨by rfl, ?_⟩) ?_ ?_
            rotate_left; · intro w'; go_simp; with_reducible rfl
            rotate_left; · simp only [Act.put, pA, pB, pC, pD, pE]; rfl
            refine pure_ (i := 10) (N := some 96) (v := ?_) (a' := ?_) (bA 13 2047) rfl rfl (any_of HT_.out (by kernel_rfl)) (fun _ _ _ h => h) (Or.inl ⟨by rfl, ?_⟩) ?_ ?_
            rotate_left; · intro w'; go_simp; with_reducible rfl
            rotate_left; · simp only [Act.put, pA, pB, pC, pD, pE]; rfl
            refine take_ (i := 11) (N := some 97) (v := ?_) (a' := ?_) (bA 13 4095) rfl rfl (take_ofW HT_.out HW_.out (by kernel_rfl)) (fun _ _ _ h => h) (Or.inl ⟨by rfl, ?_⟩) hHeld ?_ ?_
            rotate_left
            · rintro w' ⟨s0, s1, s2, s3⟩
              go_simp; with_reducible rfl
            rotate_left; · simp only [Act.put, pA, pB, pC, pD, pE]; rfl
            refine last_ (i := 12) (N := some 98) (bA 13 8191) rfl rfl (one_of HT_.out (by kernel_rfl)) (by decide) (fun K hK => ?_)
            refine goes_ Try.func25 (by kernel_rfl) rfl #[.pointer (some ⟨g, 0, none⟩), .pointer (some ⟨gy, 0, none⟩)] (by rfl) rfl rfl (by simp only [List.map_toArray, List.map_cons, List.map_nil]; rfl) ?_
            with_reducible refine (HJO.out).mono ?_
            rintro e wa ⟨⟨bj, rfl⟩, hsa, hka⟩
            refine ⟨_, rfl, ?_⟩
            refine hK.out _ _ ?_; clear hK K
            refine norm_ (a' := ?_) ?_ ?_
            rotate_left
            · show Act.put _ (some 98) _ = _
              simp only [Act.put, pA, pB, pC, pD, pE]; rfl
            refine done_ (done_of HT_.out (by kernel_rfl)) ?_
            clear hHeld HT_ HW_
            have hmj := (HY.out.2.2.2.2.1).join HY.out.2.2.2.2.2.2.2
            have hrt : r.take i ++ [y] = r.take (i + 1) := by rw [List.take_add_one, HY.out.2.2.2.2.2.2.1]; rfl
            rw [hrt] at hmj
            have HZ := Lib.hid (And.intro hmj (And.intro hsa hka))
            clear hmj hsa hka hrt HJO c0 d0 d3 d4 d5
            gi_wp2_with fail
            go_roundw
            case rel =>
              obtain ⟨hLI, hgn, hLS, hS, hmid, hk, hy, f5⟩ := HY.out
              obtain ⟨hmj, hsa, hka⟩ := HZ.out
              obtain ⟨cs, hsat⟩ := SetAt.at hS
              have hkd : Kpt (· = g) wr wa := ((Kpt.refl (· = g) wr).drew).trans hka
              exact ⟨i + 1, by omega, by simp, Lib.hid ⟨_, hLI.beside hkd hsat (.inr rfl), hgn.kept hkd (hgn.ne hsat (by decide)), hLS.beside hkd hsat HG.out.2.2, hsa, hmj, hk.trans' hkd fun k _ e => .inr e⟩⟩
            case measure => simp [intOf]; omega
          · obtain rfl : len = i := by omega
            rw [List.take_of_length_le (by rw [HR.out.2.2.1]; omega)] at hmid
            have HY := Lib.hid (And.intro hLI (And.intro hgn (And.intro hLS (And.intro hS (And.intro hmid hk)))))
            clear hLI hgn hLS hS hmid hk hil hi
            gi_wp2_with fail
            obtain ⟨hLI, hgn, hLS, hS, hmid, hk⟩ := HY.out
            have hlab := LabMid.done HX.out.2.2.2.2.2.1 (HX.out.2.2.2.2.2.2.1.rk HX.out.2.2.2.2.2.1) HB2.out.2.2.2 hmid (fun w => outU_mem HX.out.2.2.2.2.2.1 HB2.out.2.2.2 HR.out.1)
            have hWg := HG.out.1
            have hpk : Kpt p W wr := hk.mono fun k hk' e => by
              rcases e with e | e
              · exact .inl e
              · omega
            refine ⟨?_, hpk, nd1.set v { xv with lab := some g }, fun u => if u = v then l4 else L1 u, hLI, hgn, HB.out.2.2.1.set HB.out.2.2.2.2.2.2.2.2, ?_, HB.out.2.2.2.2.1.trans hpk⟩
            · refine ⟨hk.size, fun k o _ ho hc => (hk.block k (Array.getElem?_eq_some_iff.1 ho).1 ?_).trans ho⟩
              rintro (e | e)
              · subst e
                rw [show W.heap[k]? = _ from HB.out.2.1] at ho
                cases ho
                cases hc
              · have := (Array.getElem?_eq_some_iff.1 ho).1
                omega
            · refine hLS.done HC.out.2.2.2.2.2.1 rfl HG.out.2.1 hS hlab HG.out.2.2 HB.out.2.2.2.2.2.2.2.1 fun u => ?_
              have hx2 := HB2.out.2.1
              constructor
              · rintro ⟨z, hz, he⟩
                rcases List.mem_append.1 hz with hz | hz
                · exact .inl ⟨z, hz, he⟩
                · obtain rfl : z = x := by simpa using hz
                  exact .inr (by omega)
              · rintro (⟨z, hz, he⟩ | rfl)
                · exact ⟨z, List.mem_append_left _ hz, he⟩
                · exact ⟨x, by simp, hx2⟩
      case done =>
        rintro D ys W hD rfl ⟨nd1, L1, hLI, hgn, hNd, hLS, hk⟩ hK
        go_wp2
        refine ⟨by simp, .inl ⟨_, _, rfl, run_takeDeferred hK, ?_⟩⟩
        refine ⟨_, results_none rfl _ _ _, rfl, nd1, L1, ?_, hNd, ?_, ?_⟩
        · have hturn : Kpt (Nc w4.heap.size W) W (W.putObj D (.deferred none)) := kpt_turn (grownBy_putObj' W D _) fun k e => by cases e; exact ⟨hD, _, hK, rfl⟩
          exact ⟨hLI.hgc.kept hturn (hLI.hgc.nc _), hgn.kept hturn (hgn.nc _), hLI.hga.kept hturn (hLI.hga.nc _), hNd.1, hLI.la⟩
        · have hL2 := hLS.turn (kpt_turn (B := w4.heap.size) (grownBy_putObj' W D (.deferred none)) fun k e => by cases e; exact ⟨hD, _, hK, rfl⟩)
          have hcl : ∀ v, v < n → ∃ x ∈ bwd (castF F) (castF F).length, x.2 = (v : Int) := fun v hv => by
            rw [castF_length]
            exact came_all HX.out.2.2.2.2.2.2.1 hv
          have hwz := HW4.out.2.2.2.2.size
          refine ⟨fun v hv _ => ?_, fun v v' y y' g' hv hv' _ _ => hL2.inj v v' y y' g' hv hv' (hcl v hv) (hcl v' hv')⟩
          obtain ⟨y, g', e1, e2, e3, e4⟩ := hL2.sets v hv (hcl v hv)
          exact ⟨y, g', e1, e2, by omega, e4⟩
        · have hwz := HW4.out.2.2.2.2.size
          refine ((Kpt.of_below (p := (· = gn)) HW4.out.2.2.2.2).trans' hk fun k hk' h => ?_).trans' (kpt_turn (B := w4.heap.size) (grownBy_putObj' W D (.deferred none)) fun k e => by cases e; exact ⟨hD, _, hK, rfl⟩) fun k hk' h => ?_
          · rcases h with h | h
            · exact h
            · omega
          · have := h.1
            omega

end Go.Proofs.Ytdohfjidnbhfnaa.Cv
