/- (*graph).comps. -/
import Derived.Test.YtgihncjllelonaaGreatHt5
import Derived.Test.YtgihncjllelonaaGreatHt8
import Derived.Test.YtgihncjllelonaaGreatHt6
import Derived.Deep.OwnRows
import Derived.Deep.DeepCutAuto
import Derived.Deep.RegionWith
namespace Go.Proofs.YtgihncjllelonaaGreat.Scc
open Go Go.RowKit Go.Proofs.YtgihncjllelonaaGreat.Mem Go.Proofs.YtgihncjllelonaaGreat.Tj Go.Proofs.YtgihncjllelonaaGreatW.PrintWords Go.Proofs.YtgihncjllelonaaGreatW.PrintLast
attribute [local go_sem ↓] Go.wp_at_zero Go.wp_at_succ
set_option linter.unusedSimpArgs false
set_option linter.unusedVariables false

theorem info_bool : (Tryz.prog.info? 4).map (fun i => (i.zero, i.size, i.bytes)) = some (some (.bool false), 1, 1) := by kernel_rfl

theorem made_nats (n : Nat) : (madeCells #[.int .i64 0] n).toList = nats (List.replicate n 0) := by rw [toList_madeCells_one]; simp [nats]
theorem made_bls (n : Nat) : (madeCells #[.bool false] n).toList = bls (List.replicate n false) := by rw [toList_madeCells_one]; simp [bls]

def Start (w : World) (gg n : Nat) (v5 : Value) (W : World) : Prop := ∃ gs bi bl bn bc, v5 = .pointer (some ⟨gs, 0, none⟩) ∧ Srch W (w.heap.size + 5) gs gg bi bl bn bc n (.slice none 0 0) (st0 n) ∧
  Lie w.heap.size (w.heap.size + 5) gs bi bl bn bc ∧ Below w.heap.size w W ∧ w.heap.size + 5 ≤ W.heap.size

theorem mk_start {w W : World} {gg n bi bl bn bc gs : Nat} (h1 : At W gs [.pointer (some ⟨gg, 0, none⟩), .slice (some ⟨bi, 0, none⟩) n n, .slice (some ⟨bl, 0, none⟩) n n, .slice (some ⟨bn, 0, none⟩) n n, .slice none 0 0, .slice (some ⟨bc, 0, none⟩) n n, .int .i64 0, .int .i64 0] 200)
    (h2 : At W bi (nats (List.replicate n 0)) 3) (h3 : At W bl (nats (List.replicate n 0)) 3) (h4 : At W bn (bls (List.replicate n false)) 4) (h5 : At W bc (nats (List.replicate n 0)) 3)
    (hl : gs = w.heap.size + 4 ∧ w.heap.size ≤ bi ∧ w.heap.size ≤ bl ∧ w.heap.size ≤ bn ∧ w.heap.size ≤ bc ∧ bi < w.heap.size + 4 ∧ bl < w.heap.size + 4 ∧ bn < w.heap.size + 4 ∧ bc < w.heap.size + 4)
    (hd : bi ≠ bl ∧ bi ≠ bn ∧ bi ≠ bc ∧ bl ≠ bn ∧ bl ≠ bc ∧ bn ≠ bc) (hb : Below w.heap.size w W) (hsz : w.heap.size + 5 ≤ W.heap.size) : Start w gg n (.pointer (some ⟨gs, 0, none⟩)) W := by
  obtain ⟨a0, a1, a2, a3, a4, a5, a6, a7, a8⟩ := hl
  obtain ⟨d1, d2, d3, d4, d5, d6⟩ := hd
  exact ⟨gs, bi, bl, bn, bc, rfl, ⟨h1, h2, h3, h4, h5, World.ownsRow_nil _ _ _ _, by simp [st0], by simp [st0], by simp [st0], by simp [st0]⟩,
    ⟨by omega, a1, a2, a3, a4, by omega, by omega, by omega, by omega, by omega, by omega, by omega, by omega, by omega, d1, d2, d3, d4, d5, d6⟩, hb, hsz⟩

def NumRel (w : World) (n gs bc bm next : Nat) (comp : List Nat) (k j nx : Nat) (w' : World) : Prop :=
  ∃ (num done rest ro : List Nat) (cs : List Value), done.length = j ∧ rest.length = k ∧ j + k = n ∧ num.length = n ∧ renum rest num nx = some (ro, next) ∧ done ++ ro = comp ∧
    At w' bm (nats num) 3 ∧ At w' bc (nats (done ++ rest)) 3 ∧ At w' gs cs 200 ∧ cs[5]? = some (.slice (some ⟨bc, 0, none⟩) n n) ∧ Below w.heap.size w w'

def tb65_16.T16 : Bool × List (List Nat × List Nat) := (true, [([], []), ([0], [0]), ([1], [1]), ([2], [2]), ([], []), ([], []), ([], []), ([5, 6], [5, 6]), ([7], [7]), ([8], [8]), ([3, 4, 0, 1, 2, 3, 4, 5, 6, 7, 8, 9], [3, 4]), ([10, 9, 0, 1, 2, 3, 4, 5, 6, 7, 8, 9], [9, 10])])
def tb65_16.B16 : List Nat := [0, 1, 3, 7, 0, 0, 0, 96, 224, 480, 1023, 2047]
theorem tb65_16.tab16 : rtab .any (opsOf Tryz.f65 16) = tb65_16.T16 := by kernel_rfl
theorem tb65_16.bits16 : waitsOk tb65_16.T16.2 tb65_16.B16 = true := by kernel_rfl
set_option maxHeartbeats 8000000 in
set_option maxRecDepth 100000 in
theorem comps_calls (w : World) (gg n k cv next : Nat) (Av : Option Addr) (out : List (List Nat)) (comp : List Nat) (hG : Gr w w.heap.size gg n (.slice Av n cv) out) (hn : n ≤ 1000000)
    (hR : compsS n out k = some (comp, next)) :
    Calls Tryz.prog 65 #[.pointer (some ⟨gg, 0, none⟩)] w fun e w' => ∃ bc, e = .returned (.tuple #[.slice (some ⟨bc, 0, none⟩) n n, .int .i64 (next : Int)]) ∧ At w' bc (nats comp) 3 ∧ w.heap.size ≤ bc ∧ Below w.heap.size w w' := by
  have HG := Lib.hid hG
  have HR := Lib.hid hR
  obtain ⟨bo, vals, gr1, gr2, gr3, gr4, gr5, gr6⟩ := hG.some
  have d0 := gr1.cell 0 rfl
  have hm1 := fun wx => run_make_row' (P := Tryz.prog) 22 3 (.int .i64 0) 8 Tryz.underlying22 info_int rfl .i64 .i64 n (by omega) (by omega) wx
  have hm2 := fun wx => run_make_row' (P := Tryz.prog) 188 4 (.bool false) 1 Tryz.underlying188 info_bool rfl .i64 .i64 n (by omega) (by omega) wx
  clear hG hR gr1 gr2 gr5 gr6 gr4
  go_enter Tryz.func65, Tryz.ntmps65
  go_upto_region 2 with (fail)
  go_cut [5] (fun v5 wc => Hid (Start w gg n v5 wc))
  case first =>
    go_region
    all_goals go_wp2_with fail
    all_goals go_meet
    all_goals (exact Lib.hid (mk_start (by repeat (first | (refine At.made ?_ rfl; simp; done) | refine At.drew ?_ | refine At.al ?_)) (by repeat (first | (refine At.made ?_ (made_nats n); simp; done) | refine At.drew ?_ | refine At.al ?_)) (by repeat (first | (refine At.made ?_ (made_nats n); simp; done) | refine At.drew ?_ | refine At.al ?_)) (by repeat (first | (refine At.made ?_ (made_bls n); simp; done) | refine At.drew ?_ | refine At.al ?_)) (by repeat (first | (refine At.made ?_ (made_nats n); simp; done) | refine At.drew ?_ | refine At.al ?_)) (by omega) (by omega) (by repeat (first | exact Below.refl _ _ | refine Below.drew ?_ | refine Below.alloc ?_ (by first | (simp; done) | (simp; omega)) _)) (by simp)))
  case rest =>
    clear hm2
    obtain ⟨gs, bi, bl, bn, bc, rfl, hS, L, hB, hsz⟩ := hcut.out
    have hR := HR.out
    unfold compsS at hR
    cases hsc : scanS n out k (List.range n) (st0 n) with
    | none => rw [hsc] at hR; cases hR
    | some SF =>
      rw [hsc, Option.bind_some] at hR
      have HS := Lib.hid hS
      have HL := Lib.hid L
      have HB := Lib.hid hB
      have HSZ := Lib.hid hsz
      have HSC := Lib.hid hsc
      have HRN := Lib.hid hR
      clear hcut HR hS L hB hsz hsc hR d0
      go_wp2
      go_loopg [28] n (fun kq v28 w' => ∃ i : Nat, v28 = .int .i64 (i : Int) ∧ Hid (i + kq = n ∧ ∃ S ov, scanS n out k ((List.range n).drop i) S = some SF ∧ Srch w' (w.heap.size + 5) gs gg bi bl bn bc n ov S ∧ Below w.heap.size w w' ∧ w.heap.size + 5 ≤ w'.heap.size))
      case atStart => exact ⟨0, rfl, Lib.hid ⟨by omega, st0 n, _, HSC.out, HS.out, HB.out, HSZ.out⟩⟩
      case round =>
        clear HS HB HSZ HSC
        obtain ⟨i, rfl, hI⟩ := hrel
        obtain ⟨hik, S, ov, hsc, hS, hB, hsz⟩ := hI.out
        clear hI
        by_cases hin : i < n
        · have i0 : (0 : Int) ≤ (i : Int) := by omega
          have i1 : (i : Int) < (n : Int) := by omega
          have i2 : (n : Int) ≤ 1000000 := by omega
          rw [List.drop_eq_getElem_cons (by simpa using hin), List.getElem_range, scanS] at hsc
          obtain ⟨iv, hiv⟩ : ∃ iv, S.idx[i]? = some iv := ⟨_, List.getElem?_eq_getElem (by rw [hS.hil]; exact hin)⟩
          rw [show S.idx.getD i 0 = iv from by rw [List.getD_eq_getElem?_getD, hiv]; rfl] at hsc
          have c1 := hS.hs.cell 1 rfl
          have ci := hS.hi.cell i (nats_at _ hiv)
          by_cases hz : iv = 0
          · subst hz
            rw [if_pos rfl] at hsc
            by_cases hck : S.time < 1000000 ∧ S.opn.length < 1000000
            · rw [if_pos hck] at hsc
              cases hf : fromS n out k (enterS S i) [(i, 0)] with
              | none => rw [hf] at hsc; cases hsc
              | some S2 =>
                rw [hf, Option.bind_some] at hsc
                have HSC := Lib.hid hsc
                have HF := Lib.hid hf
                have HCK := Lib.hid hck
                have HSS := Lib.hid hS
                have HB := Lib.hid hB
                have HSZ := Lib.hid hsz
                have HIK := Lib.hid hik
                clear hsc hf hck hS hB hsz hiv hik
                go_wp2_with fail
                refine (from_calls _ w.heap.size (w.heap.size + 5) gs gg bi bl bn bc n i k ov _ S S2 out HSS.out HL.out (HG.out.below HB.out) hin hn HCK.out.1 HCK.out.2 HSZ.out HF.out).mono ?_
                rintro e w2 ⟨rfl, ov2, hS2, hB2⟩
                have HS2 := Lib.hid hS2
                have HB2 := Lib.hid hB2
                clear hS2 hB2 c1 ci
                obtain ⟨k1, hk1⟩ : ∃ k1, gk = k1 + 1 := ⟨gk - 1, by have := HIK.out; omega⟩
                have HK1 := Lib.hid hk1
                clear hk1
                go_wp2
                go_roundg k1
                case measure => have := HK1.out; omega
                case rel => exact ⟨i + 1, by go_num, Lib.hid ⟨by have := HK1.out; have := HIK.out; omega, S2, ov2, HSC.out, HS2.out, HB.out.trans HB2.out, Nat.le_trans HSZ.out HB2.out.size⟩⟩
            · rw [if_neg hck] at hsc
              cases hsc
          · rw [if_neg hz] at hsc
            have z1 : ((iv : Int) == 0) = false := beq_eq_false_iff_ne.2 (by omega)
            have z2 : ¬ ((iv : Int) = 0) := by omega
            have HSC := Lib.hid hsc
            have HSS := Lib.hid hS
            have HB := Lib.hid hB
            have HSZ := Lib.hid hsz
            have HIK := Lib.hid hik
            clear hsc hS hB hsz hiv hz hik
            obtain ⟨k1, hk1⟩ : ∃ k1, gk = k1 + 1 := ⟨gk - 1, by have := HIK.out; omega⟩
            have HK1 := Lib.hid hk1
            clear hk1
            go_wp2
            go_roundg k1
            case measure => have := HK1.out; omega
            case rel => exact ⟨i + 1, by go_num, Lib.hid ⟨by have := HK1.out; have := HIK.out; omega, S, ov, HSC.out, HSS.out, HB.out, HSZ.out⟩⟩
        · obtain rfl : i = n := by omega
          rw [List.drop_eq_nil_of_le (by simp), scanS] at hsc
          obtain rfl := Option.some.inj hsc
          have HSS := Lib.hid hS
          have HB := Lib.hid hB
          have HSZ := Lib.hid hsz
          clear hS hB hsz hsc hin
          have c5 := HSS.out.hs.cell 5 rfl
          have l5 := HSS.out.hs.lt
          have q5 := Nat.ne_of_lt l5
          go_wp2
          have hcl := HSS.out.hcl
          obtain ⟨bm, hbm⟩ : ∃ bm, bm = wr.heap.size := ⟨_, rfl⟩
          have hE0 : At (wr.alloc (.cells (madeCells #[.int .i64 0] i) 3)) bm (nats (List.replicate i 0)) 3 := At.made hbm.symm (made_nats i)
          have hB0 : Below w.heap.size w (wr.alloc (.cells (madeCells #[.int .i64 0] i) 3)) := HB.out.alloc HB.out.size _
          have hd1 : bm ≠ gs := by have := HSS.out.hs.lt; omega
          have hd2 : bm ≠ bc := by have := HSS.out.hc.lt; omega
          have hd3 : gs ≠ bc := HL.out.n4
          have hgc : w.heap.size ≤ gs ∧ w.heap.size ≤ bc ∧ w.heap.size ≤ bm := ⟨HL.out.a1, HL.out.a5, by have := HB.out.size; omega⟩
          rw [← hbm]
          have HE0 := Lib.hid hE0
          have HB0 := Lib.hid hB0
          have HD := Lib.hid (show bm ≠ gs ∧ bm ≠ bc ∧ gs ≠ bc from ⟨hd1, hd2, hd3⟩)
          have HGC := Lib.hid hgc
          have hS0 := HSS.out.hs.al (o := .cells (madeCells #[.int .i64 0] i) 3)
          have hC0 := HSS.out.hc.al (o := .cells (madeCells #[.int .i64 0] i) 3)
          have HS0 := Lib.hid hS0
          have HC0 := Lib.hid hC0
          have HCL := Lib.hid hcl
          clear hE0 hB0 hd1 hd2 hd3 hgc hbm hS0 hC0 hcl c5 l5 q5
          go_loopg [8, 50] i (fun kq v8 v50 w' => ∃ j nx : Nat, v8 = .int .i64 (nx : Int) ∧ v50 = .int .i64 (j : Int) ∧ Hid (NumRel w i gs bc bm next comp kq j nx w'))
          case atStart =>
            exact ⟨0, 0, rfl, rfl, Lib.hid ⟨List.replicate i 0, [], S.comp, comp, _, rfl, HCL.out, by omega, by simp, HRN.out, rfl, HE0.out, HC0.out, HS0.out, rfl, HB0.out⟩⟩
          case round =>
            clear HE0 HB0 HS0 HC0 HCL HRN HSS HB HSZ
            obtain ⟨j, nx, rfl, rfl, hI⟩ := hrel
            obtain ⟨num, done, rest, ro, cs, e1, e2, e3, e4, e5, e6, hA, hC, hS, e7, hB⟩ := hI.out
            clear hI
            cases rest with
            | nil =>
              simp at e2
              subst e2
              simp only [renum] at e5
              obtain ⟨rfl, rfl⟩ := Prod.mk.inj (Option.some.inj e5)
              obtain rfl : i = j := by omega
              rw [List.append_nil] at e6 hC
              subst e6
              have c5 := hS.cell 5 e7
              have HC := Lib.hid hC
              have HB := Lib.hid hB
              clear hA hC hS e7 hB e1 e3 e4 e5
              go_wp2
              go_ret2
              exact ⟨bc, rfl, HC.out, HGC.out.2.1, HB.out⟩
            | cons c r =>
              rw [renum] at e5
              by_cases hck : c < num.length ∧ nx < 1000000 ∧ num.getD c 0 ≤ 1000000
              · rw [if_pos hck] at e5
                have j0 : (0 : Int) ≤ (j : Int) := by omega
                have j1 : (j : Int) < (i : Int) := by simp only [List.length_cons] at e2; omega
                have j2 : (i : Int) ≤ 1000000 := by omega
                have k0 : (0 : Int) ≤ (c : Int) := by omega
                have k1 : (c : Int) < (i : Int) := by omega
                have x0 : (0 : Int) ≤ (nx : Int) := by omega
                have x1 : (nx : Int) < 1000000 := by omega
                have cc := hC.cell j (nats_at _ (show (done ++ c :: r)[j]? = some c from by rw [List.getElem?_append_right (by omega), e1]; simp))
                have fc := hC.free j
                obtain ⟨y, hy⟩ : ∃ y, num[c]? = some y := ⟨_, List.getElem?_eq_getElem hck.1⟩
                have ca := hA.cell c (nats_at _ hy)
                have fa := hA.free c
                have c5 := hS.cell 5 e7
                rw [show num.getD c 0 = y from by rw [List.getD_eq_getElem?_getD, hy]; rfl] at e5 hck
                have y9 : (y : Int) ≤ 1000000 := by omega
                obtain ⟨kq, hkq⟩ : ∃ kq, r.length = kq := ⟨_, rfl⟩
                have HKQ := Lib.hid (show gk = kq + 1 from by simp only [List.length_cons] at e2; omega)
                have HKR := Lib.hid hkq
                have HA := Lib.hid hA
                have HC := Lib.hid hC
                have HS := Lib.hid hS
                have HB := Lib.hid hB
                have H1 := Lib.hid e1
                have H3 := Lib.hid e3
                have H4 := Lib.hid e4
                have H6 := Lib.hid e6
                have H7 := Lib.hid e7
                have HCK := Lib.hid hck
                clear hA hC hS hB e1 e2 e3 e4 e6 e7 hck hkq
                have d1 := HD.out.1
                have d2 := HD.out.2.1
                have d3 := HD.out.2.2
                by_cases hz : y = 0
                · subst hz
                  rw [if_pos rfl] at e5
                  have H5 := Lib.hid e5
                  clear e5 hy
                  go_wp2
                  have hnl : c < num.length := HCK.out.1
                  refine gen_world (fun W => At W bm (nats (num.set c (nx + 1))) 3 ∧ At W bc (nats (done ++ c :: r)) 3 ∧ At W gs cs 200 ∧ Below w.heap.size w W) ⟨HA.out.put (nats_set _ _ (nx + 1)).symm, HC.out.off d2.symm, HS.out.off d1.symm, HB.out.setCell HGC.out.2.2 _⟩ ?_
                  clear cc fc ca fa c5 HA HC HS HB
                  rintro W2 ⟨hA, hC, hS, hB⟩
                  have c5 := hS.cell 5 H7.out
                  have cc := hC.cell j (nats_at _ (show (done ++ c :: r)[j]? = some c from by rw [List.getElem?_append_right (by have := H1.out; omega), H1.out]; simp))
                  have fc := hC.free j
                  have ca := hA.cell c (nats_at _ (show (num.set c (nx + 1))[c]? = some (nx + 1) from by simp [hnl]))
                  have HA := Lib.hid hA
                  have HC := Lib.hid hC
                  have HS := Lib.hid hS
                  have HB := Lib.hid hB
                  clear hA hC hS hB
                  refine start_ (n := 12) (S := fun w' => w'.cell? ⟨gs, 5, none⟩ = some (.slice (some ⟨bc, 0, none⟩) i i) ∧ w'.cell? ⟨bm, c, none⟩ = some (.int .i64 ((nx : Int) + 1))) (ds := [11]) (bA 12 0) (by kernel_rfl) rfl rfl ⟨c5, ca⟩ (fun hHeld => ?_)
                  refine with_tabW tb65_16.tab16 tb65_16.bits16 (fun HT_ HW_ => ?_)
                  refine pw_ 0 66 (bA 12 1) HT_.out ?_
                  refine pw_ 1 67 (bA 12 3) HT_.out ?_
                  refine pw_ 2 68 (bA 12 7) HT_.out ?_
                  refine pw_ 4 70 (bA 12 23) HT_.out ?_
                  refine pw_ 5 71 (bA 12 55) HT_.out ?_
                  refine pw_ 6 72 (bA 12 119) HT_.out ?_
                  refine pw_ 7 73 (bA 12 247) HT_.out ?_
                  refine tw_ 3 69 (bA 12 255) HT_.out HW_.out hHeld (hv := by rintro w' ⟨s0, s1⟩; go_simp; with_reducible rfl) (h := ?_)
                  refine tw_ 8 74 (bA 12 511) HT_.out HW_.out hHeld (hv := by rintro w' ⟨s0, s1⟩; go_simp; with_reducible rfl) (h := ?_)
                  refine pw_ 9 75 (bA 12 1023) HT_.out ?_
                  refine pw_ 10 76 (bA 12 2047) HT_.out ?_
                  refine last_ (i := 11) (N := none) (bA 12 4095) rfl rfl (one_of HT_.out (by kernel_rfl)) (by decide) (fun K hK => ?_)
                  refine skip_ (w1 := ?_) (by rfl) rfl ?_ ?_
                  rotate_left; · go_simp; rfl
                  refine hK.out _ _ ?_; clear hK K
                  refine done_ (done_of HT_.out (by kernel_rfl)) ?_
                  clear hHeld HT_ HW_; clear c5 cc fc ca
                  refine gen_q (fun W => NumRel w i gs bc bm next comp kq (j + 1) (nx + 1) W) ?_ ?_
                  · have e1 := H1.out
                    have e3 := H3.out
                    have e4 := H4.out
                    have e6 := H6.out
                    have hkr := HKR.out
                    have hk := HKQ.out
                    have h5 := H5.out
                    cases hr : renum r (num.set c (nx + 1)) (nx + 1) with
                    | none => rw [hr] at h5; cases h5
                    | some q =>
                      obtain ⟨ro1, nxt⟩ := q
                      rw [hr] at h5
                      obtain ⟨rfl, rfl⟩ := Prod.mk.inj (Option.some.inj h5)
                      refine ⟨(num.set c (nx + 1)), done ++ [nx], r, ro1, cs, by simp [e1], hkr, by omega, by simpa using e4, hr, by simpa using e6, HA.out.off HD.out.2.1, HC.out.put ?_, HS.out.off HD.out.2.2, H7.out, HB.out.drew.setCell HGC.out.2.1 _⟩
                      have hx : (nats (done ++ c :: r)).set j (.int .i64 (nx : Int)) = nats (done ++ nx :: r) := by
                        rw [show ((nx : Int)) = ((nx : Nat) : Int) from rfl, nats_set, List.set_append, if_neg (by omega), e1, Nat.sub_self]
                        rfl
                      rw [← List.append_cons]
                      rw [show wrap64 (nx : Int) = (nx : Int) from by unfold wrap64; omega]
                      exact hx.symm
                  clear HA HC HS HB H5 H1 H3 H4 H6 H7
                  intro W3 hF
                  have HF := Lib.hid hF
                  clear hF
                  go_wp2
                  go_roundg kq
                  case measure => have := HKQ.out; omega
                  case rel => exact ⟨j + 1, (nx + 1), by go_num, by go_num, HF⟩
                · rw [if_neg hz] at e5
                  have z1 : ((y : Int) == 0) = false := beq_eq_false_iff_ne.2 (by omega)
                  have z2 : ¬ ((y : Int) = 0) := by omega
                  have z3 : (1 : Int) ≤ (y : Int) := by omega
                  have H5 := Lib.hid e5
                  have HY := Lib.hid hy
                  clear e5 hy
                  go_wp2
                  refine gen_world (fun W => At W bm (nats num) 3 ∧ At W bc (nats (done ++ c :: r)) 3 ∧ At W gs cs 200 ∧ Below w.heap.size w W) ⟨HA.out, HC.out, HS.out, HB.out⟩ ?_
                  clear cc fc ca fa c5 HA HC HS HB
                  rintro W2 ⟨hA, hC, hS, hB⟩
                  have c5 := hS.cell 5 H7.out
                  have cc := hC.cell j (nats_at _ (show (done ++ c :: r)[j]? = some c from by rw [List.getElem?_append_right (by have := H1.out; omega), H1.out]; simp))
                  have fc := hC.free j
                  have ca := hA.cell c (nats_at _ (show num[c]? = some y from HY.out))
                  have HA := Lib.hid hA
                  have HC := Lib.hid hC
                  have HS := Lib.hid hS
                  have HB := Lib.hid hB
                  clear hA hC hS hB
                  refine start_ (n := 12) (S := fun w' => w'.cell? ⟨gs, 5, none⟩ = some (.slice (some ⟨bc, 0, none⟩) i i) ∧ w'.cell? ⟨bm, c, none⟩ = some (.int .i64 (y : Int))) (ds := [11]) (bA 12 0) (by kernel_rfl) rfl rfl ⟨c5, ca⟩ (fun hHeld => ?_)
                  refine with_tabW tb65_16.tab16 tb65_16.bits16 (fun HT_ HW_ => ?_)
                  refine pw_ 0 66 (bA 12 1) HT_.out ?_
                  refine pw_ 1 67 (bA 12 3) HT_.out ?_
                  refine pw_ 2 68 (bA 12 7) HT_.out ?_
                  refine pw_ 4 70 (bA 12 23) HT_.out ?_
                  refine pw_ 5 71 (bA 12 55) HT_.out ?_
                  refine pw_ 6 72 (bA 12 119) HT_.out ?_
                  refine pw_ 7 73 (bA 12 247) HT_.out ?_
                  refine tw_ 3 69 (bA 12 255) HT_.out HW_.out hHeld (hv := by rintro w' ⟨s0, s1⟩; go_simp; with_reducible rfl) (h := ?_)
                  refine tw_ 8 74 (bA 12 511) HT_.out HW_.out hHeld (hv := by rintro w' ⟨s0, s1⟩; go_simp; with_reducible rfl) (h := ?_)
                  refine pw_ 9 75 (bA 12 1023) HT_.out ?_
                  refine pw_ 10 76 (bA 12 2047) HT_.out ?_
                  refine last_ (i := 11) (N := none) (bA 12 4095) rfl rfl (one_of HT_.out (by kernel_rfl)) (by decide) (fun K hK => ?_)
                  refine skip_ (w1 := ?_) (by rfl) rfl ?_ ?_
                  rotate_left; · go_simp; rfl
                  refine hK.out _ _ ?_; clear hK K
                  refine done_ (done_of HT_.out (by kernel_rfl)) ?_
                  clear hHeld HT_ HW_; clear c5 cc fc ca
                  refine gen_q (fun W => NumRel w i gs bc bm next comp kq (j + 1) nx W) ?_ ?_
                  · have e1 := H1.out
                    have e3 := H3.out
                    have e4 := H4.out
                    have e6 := H6.out
                    have hkr := HKR.out
                    have hk := HKQ.out
                    have h5 := H5.out
                    cases hr : renum r num nx with
                    | none => rw [hr] at h5; cases h5
                    | some q =>
                      obtain ⟨ro1, nxt⟩ := q
                      rw [hr] at h5
                      obtain ⟨rfl, rfl⟩ := Prod.mk.inj (Option.some.inj h5)
                      refine ⟨num, done ++ [(y - 1)], r, ro1, cs, by simp [e1], hkr, by omega, by simpa using e4, hr, by simpa using e6, HA.out.off HD.out.2.1, HC.out.put ?_, HS.out.off HD.out.2.2, H7.out, HB.out.drew.setCell HGC.out.2.1 _⟩
                      have hx : (nats (done ++ c :: r)).set j (.int .i64 ((y : Int) - 1)) = nats (done ++ (y - 1) :: r) := by
                        rw [show ((y : Int) - 1) = ((y - 1 : Nat) : Int) from by omega, nats_set, List.set_append, if_neg (by omega), e1, Nat.sub_self]
                        rfl
                      rw [← List.append_cons]
                      rw [show wrap64 ((y : Int) - 1) = (y : Int) - 1 from by unfold wrap64; omega]
                      exact hx.symm
                  clear HA HC HS HB H5 H1 H3 H4 H6 H7
                  intro W3 hF
                  have HF := Lib.hid hF
                  clear hF
                  go_wp2
                  go_roundg kq
                  case measure => have := HKQ.out; omega
                  case rel => exact ⟨j + 1, nx, by go_num, by go_num, HF⟩
              · rw [if_neg hck] at e5
                cases e5

end Go.Proofs.YtgihncjllelonaaGreat.Scc

/- scc.made. -/
namespace Go.Proofs.YtgihncjllelonaaGreat.Scc
open Go Go.RowKit Go.Proofs.YtgihncjllelonaaGreat.Mem Go.Proofs.YtgihncjllelonaaGreat.Tj Go.Proofs.YtgihncjllelonaaGreat.Sl Go.Proofs.YtgihncjllelonaaGreatW.PrintWords Go.Proofs.YtgihncjllelonaaGreatW.PrintLast
attribute [local go_sem ↓] Go.wp_at_zero Go.wp_at_succ
set_option linter.unusedSimpArgs false
set_option linter.unusedVariables false

theorem info_ints : (Tryz.prog.info? 22).map (fun i => (i.zero, i.size, i.bytes)) = some (some (.slice none 0 0), 1, 24) := by kernel_rfl

def RdA (w : World) (A : Option Addr) (l : List (Int × Int)) : Prop := ∀ (j : Nat) (u v : Int), l[j]? = some (u, v) → ∃ b, A = some ⟨b, 0, none⟩ ∧ w.cell? ⟨b, j * 2, none⟩ = some (.int .i64 u) ∧ w.cell? ⟨b, j * 2 + 1, none⟩ = some (.int .i64 v)
theorem RdA.below {w w' : World} {A : Option Addr} {l : List (Int × Int)} (h : RdA w A l) (hb : Below w.heap.size w w') : RdA w' A l := fun j u v hx => by
  obtain ⟨b, h1, h2, h3⟩ := h j u v hx
  exact ⟨b, h1, (hb.cell (p := ⟨b, j * 2, none⟩) (World.block_lt_of_cell? w _ h2)).trans h2, (hb.cell (p := ⟨b, j * 2 + 1, none⟩) (World.block_lt_of_cell? w _ h3)).trans h3⟩

structure Rws (w : World) (base bo n : Nat) (vals : List Value) (out : List (List Nat)) : Prop where
  hat : At w bo vals 22
  lv : vals.length = n
  lo : out.length = n
  own : ∀ (u : Nat) (v : Value) (r : List Nat), vals[u]? = some v → out[u]? = some r → w.ownsRow base 3 1 v r.length (nats r)
  apart : ∀ (u u' : Nat) (v v' : Value), u ≠ u' → vals[u]? = some v → vals[u']? = some v' → v.ownBlock = none ∨ v.ownBlock ≠ v'.ownBlock

theorem Rws.below {w w' : World} {base bo n : Nat} {vals : List Value} {out : List (List Nat)} (h : Rws w base bo n vals out) (hb : Below w.heap.size w w') : Rws w' base bo n vals out :=
  ⟨h.hat.below hb h.hat.lt, h.lv, h.lo, fun u v r h1 h2 => own_move (h.own u v r h1 h2) (fun k hk => hb.block k ((h.own u v r h1 h2).lt k hk).2), h.apart⟩

theorem Rws.push {w w1 : World} {base bo n u x g cap : Nat} {vals : List Value} {out : List (List Nat)} {v : Value} {r : List Nat} (h : Rws w base bo n vals out) (hv : vals[u]? = some v) (hr : out[u]? = some r)
    (hb : bo < base) (hg : w.grownBy w1 v.ownBlock) (ho : w1.ownsRow base 3 1 (.slice (some ⟨g, 0, none⟩) (r.length + 1) cap) (r.length + 1) (nats (r ++ [x]))) (hat : v.ownBlock = some g ∨ g = w.heap.size) :
    Rws (w1.setCell ⟨bo, u, none⟩ (.slice (some ⟨g, 0, none⟩) (r.length + 1) cap)) base bo n (vals.set u (.slice (some ⟨g, 0, none⟩) (r.length + 1) cap)) (out.set u (r ++ [x])) := by
  have hu : u < vals.length := (List.getElem?_eq_some_iff.1 hv).1
  have huo : u < out.length := (List.getElem?_eq_some_iff.1 hr).1
  refine ⟨(h.hat.grown hg (own_under (h.own u v r hv hr) hb)).put rfl, by simpa using h.lv, by simpa using h.lo, ?_, ?_⟩
  · intro u' v' r' h1 h2
    by_cases he : u' = u
    · subst he
      rw [List.getElem?_set_self hu] at h1
      rw [List.getElem?_set_self huo] at h2
      cases h1
      cases h2
      rw [List.length_append]
      exact ho.setB hb
    · rw [List.getElem?_set_ne (Ne.symm he)] at h1 h2
      exact ((h.own u' v' r' h1 h2).kept hg (h.apart u' u v' v he h1 hv)).setB hb
  · intro u1 u2 v1 v2 hne h1 h2
    by_cases e1 : u1 = u
    · subst e1
      rw [List.getElem?_set_self hu] at h1
      cases h1
      rw [List.getElem?_set_ne hne] at h2
      right
      intro he
      have hlt : u2 < out.length := by rw [h.lo, ← h.lv]; exact (List.getElem?_eq_some_iff.1 h2).1
      have h3 := (h.own u2 v2 _ h2 (List.getElem?_eq_getElem hlt)).lt g (by rw [← he]; rfl)
      rcases hat with h4 | h4
      · rcases h.apart u2 u1 v2 v (Ne.symm hne) h2 hv with h5 | h5
        · rw [h5] at he; simp [Value.ownBlock] at he
        · apply h5; rw [← he, h4]; rfl
      · omega
    · rw [List.getElem?_set_ne (Ne.symm e1)] at h1
      by_cases e2 : u2 = u
      · subst e2
        rw [List.getElem?_set_self hu] at h2
        cases h2
        have hlt : u1 < out.length := by rw [h.lo, ← h.lv]; exact (List.getElem?_eq_some_iff.1 h1).1
        rcases hat with h4 | h4
        · rcases h.apart u1 u2 v1 v hne h1 hv with h5 | h5
          · exact .inl h5
          · right; intro he; apply h5; rw [he, h4]; rfl
        · right
          intro he
          have h3 := (h.own u1 v1 _ h1 (List.getElem?_eq_getElem hlt)).lt g he
          omega
      · rw [List.getElem?_set_ne (Ne.symm e2)] at h2
        exact h.apart u1 u2 v1 v2 hne h1 h2

theorem Rws.gr {w : World} {base bo gg n : Nat} {vsv : Value} {vals : List Value} {out : List (List Nat)} (h : Rws w base bo n vals out) (hg : At w gg [vsv, .slice (some ⟨bo, 0, none⟩) n n] 138) (hb : ∀ r ∈ out, r.length ≤ 1000000) :
    Gr w w.heap.size gg n vsv out := by
  refine ⟨h.lo, bo, vals, hg, h.hat, hg.lt, h.hat.lt, h.lv, fun u r hr => ?_⟩
  have hu : u < vals.length := by rw [h.lv, ← h.lo]; exact (List.getElem?_eq_some_iff.1 hr).1
  have ho := h.own u _ r (List.getElem?_eq_getElem hu) hr
  obtain ⟨A, c, hv⟩ := own_slice ho
  refine ⟨A, c, by rw [List.getElem?_eq_getElem hu, hv], hb r (List.mem_of_getElem? hr), fun j x hx => ?_⟩
  have hj : j < r.length := (List.getElem?_eq_some_iff.1 hx).1
  rw [hv] at ho
  obtain ⟨g, cap, he, _, hlt⟩ := ho.form (by omega)
  cases he
  refine ⟨g, rfl, hlt, ?_⟩
  rw [ho.cellAt j (by omega)]
  exact nats_at r hx

end Go.Proofs.YtgihncjllelonaaGreat.Scc
