/- scc.Order: the walk. -/
import Derived.Test.YtdohfjidnbhfnaaGo18
namespace Go.Proofs.Ytdohfjidnbhfnaa.Scc
open Go Go.RowKit Go.Proofs.Ytdohfjidnbhfnaa.Mem Go.Proofs.Ytdohfjidnbhfnaa.Tj Go.Proofs.Ytdohfjidnbhfnaa.Sl Go.Proofs.YtdohfjidnbhfnaaW.PrintWords Go.Proofs.YtdohfjidnbhfnaaW.PrintLast
attribute [local go_sem ↓] Go.wp_at_zero Go.wp_at_succ
set_option linter.unusedSimpArgs false
set_option linter.unusedVariables false

def OrderPost (w : World) (code : Nat) (ts : List Int) (e : Ending) (w' : World) : Prop :=
  Below w.heap.size w w' ∧ (code ≠ 0 → e = .returned (.tuple #[.slice none 0 0, .int .i64 (code : Int)])) ∧
  (code = 0 → ∃ v, e = .returned (.tuple #[v, .int .i64 0]) ∧ w'.ownsRow w.heap.size 3 1 v ts.length (ints ts))

theorem popQ_calls (w : World) (base hb mb B came : Nat) (rs : List Nat) (h : Hp.HQ w base hb mb rs came) (hB : B ≤ hb ∧ B ≤ mb) (hs : rs.Pairwise (· < ·)) (hcm : rs ≠ [] → came < 1000000) :
    Calls Try.prog 63 #[.pointer (some ⟨hb, 0, none⟩)] w fun e w' => e = .returned (.tuple #[.int .i64 ((rs.headD 0 : Nat) : Int), .int .i64 ((rs.headD 0 : Nat) : Int), .bool (!rs.isEmpty)]) ∧ Hp.HQ w' base hb mb rs.tail came ∧ Hp.KeepQ B w w' := by
  cases rs with
  | nil =>
    refine (Hp.popQ_none w base hb mb came h).mono ?_
    rintro e w' ⟨rfl, rfl⟩
    exact ⟨rfl, h, Hp.KeepQ.refl _ _⟩
  | cons c r =>
    refine (Hp.popQ_some w base hb mb B c came r h hB hs (hcm (by simp))).mono ?_
    rintro e w' ⟨rfl, h1, h2⟩
    exact ⟨rfl, h1, h2⟩

theorem loopO_came {head : List Int} {outs : List (List Nat)} {k : Nat} {into rs : List Nat} {came : Nat} {told T : List Int} (h : loopO head outs k into rs came told = some T) : rs ≠ [] → came < 1000000 := by
  intro hne
  cases k with
  | zero => simp [loopO] at h
  | succ k =>
    cases rs with
    | nil => exact absurd rfl hne
    | cons c r =>
      rw [loopO] at h
      split at h
      · split at h
        · rename_i hc; exact hc.2
        · cases h
      · cases h

def tb45_9.T9 : Bool × List (List Nat × List Nat) := (true, [([], []), ([], []), ([], []), ([1, 2], [1, 2]), ([3], [3]), ([], []), ([5], [5]), ([6], [6]), ([7], [7]), ([], []), ([8, 9], [8, 9]), ([10], [10]), ([0, 4, 0, 1, 2, 3, 4, 5, 6, 7, 8, 9, 10, 11], [0, 4]), ([12, 11, 0, 1, 2, 3, 4, 5, 6, 7, 8, 9, 10, 11], [11, 12])])
def tb45_9.B9 : List Nat := [0, 0, 0, 6, 14, 0, 32, 96, 224, 0, 992, 2016, 4095, 8191]
theorem tb45_9.tab9 : rtab .any (opsOf Try.f45 9) = tb45_9.T9 := by kernel_rfl
theorem tb45_9.bits9 : waitsOk tb45_9.T9.2 tb45_9.B9 = true := by kernel_rfl
def tb45_13.T13 : Bool × List (List Nat × List Nat) := (true, [([], []), ([], []), ([0, 1], [0, 1]), ([2], [2]), ([], []), ([], []), ([4, 5], [4, 5]), ([6], [6]), ([3, 7], [3, 7])])
def tb45_13.B13 : List Nat := [0, 0, 3, 7, 0, 0, 48, 112, 255]
theorem tb45_13.tab13 : rtab .any (opsOf Try.f45 13) = tb45_13.T13 := by kernel_rfl
theorem tb45_13.bits13 : waitsOk tb45_13.T13.2 tb45_13.B13 = true := by kernel_rfl
def tb45_15.T15 : Bool × List (List Nat × List Nat) := (true, [([], []), ([], []), ([], []), ([1, 2], [1, 2]), ([3], [3]), ([], []), ([], []), ([], []), ([6, 7], [6, 7]), ([8], [8]), ([5, 9], [5, 9]), ([10], [10]), ([], []), ([], []), ([12, 13], [12, 13]), ([14], [14]), ([15], [15]), ([11, 16], [11, 16]), ([0, 4, 0, 1, 2, 3, 4, 5, 6, 7, 8, 9, 10, 11, 12, 13, 14, 15, 16, 17], [0, 4]), ([18, 17, 17, 0, 1, 2, 3, 4, 5, 6, 7, 8, 9, 10, 11, 12, 13, 14, 15, 16, 17], [17, 18])])
def tb45_15.B15 : List Nat := [0, 0, 0, 6, 14, 0, 0, 0, 192, 448, 992, 2016, 0, 0, 12288, 28672, 61440, 131040, 262143, 524287]
theorem tb45_15.tab15 : rtab .any (opsOf Try.f45 15) = tb45_15.T15 := by kernel_rfl
theorem tb45_15.bits15 : waitsOk tb45_15.T15.2 tb45_15.B15 = true := by kernel_rfl
set_option maxHeartbeats 16000000 in
set_option maxRecDepth 100000 in
theorem order_calls (w : World) (Av Aa : Option Addr) (cv ca k code : Nat) (l : List Int) (arcs : List (Int × Int)) (ts : List Int) (hv : RdI w Av l) (ha : RdA w Aa arcs) (hn : l.length ≤ 1000000) (hm : arcs.length ≤ 1000000)
    (hR : orderS l arcs (sorted l) k = some (code, ts)) :
    Calls Try.prog 45 #[.slice Av l.length cv, .slice Aa arcs.length ca] w fun e w' => OrderPost w code ts e w' := by
  have HM := Lib.hid (made_calls w Av Aa cv ca l arcs hv ha hn hm)
  have HR := Lib.hid hR
  clear hv ha hR
  go_enter Try.func45, Try.ntmps45
  go_wp2_with fail
  refine HM.out.mono ?_
  clear HM
  rintro e w1 ⟨hb, hM⟩
  have hR := HR.out
  unfold orderS at hR
  by_cases hc : (Lib.compact (sorted l)).length = l.length
  · rw [if_pos hc] at hM hR
    cases ho : arcsS (sorted l) arcs (List.replicate l.length []) with
    | none =>
      rw [ho] at hM hR
      dsimp only at hM
      subst hM
      obtain ⟨rfl, rfl⟩ := Prod.mk.inj (Option.some.inj hR)
      have HB := Lib.hid hb
      clear hb hR HR hc ho
      go_wp2_with fail
      go_ret2
      exact ⟨HB.out, fun _ => rfl, fun h => absurd h (by decide)⟩
    | some out =>
      rw [ho] at hM hR
      dsimp only at hM hR
      obtain ⟨gg, A, c, rfl, hg, hrd⟩ := hM
      cases hcp : compsS l.length out k with
      | none => rw [hcp] at hR; cases hR
      | some cp =>
        obtain ⟨comp, next⟩ := cp
        rw [hcp, Option.bind_some] at hR
        cases hvt : vertsO comp (sorted l) out l.length (List.replicate next 0) (List.replicate next 0) (List.replicate next []) with
        | none => rw [hvt] at hR; cases hR
        | some hio =>
        obtain ⟨head, into, outs⟩ := hio
        rw [hvt, Option.bind_some] at hR
        cases hsd : seedO into next 0 [] 0 with
        | none => rw [hsd] at hR; cases hR
        | some rc =>
        obtain ⟨rs0, came0⟩ := rc
        rw [hsd, Option.bind_some] at hR
        cases hlp : loopO head outs k into rs0 came0 [] with
        | none => rw [hlp] at hR; cases hR
        | some told =>
          rw [hlp] at hR
          obtain ⟨rfl, rfl⟩ := Prod.mk.inj (Option.some.inj hR)
          have HB := Lib.hid hb
          have HG := Lib.hid hg
          have HRD := Lib.hid hrd
          have HCPB := Lib.hid (comps_len hcp).2
          have HCL := Lib.hid (comps_len hcp).1
          have HCP := Lib.hid hcp
          have HVT := Lib.hid hvt
          have HSD := Lib.hid hsd
          have HLP := Lib.hid hlp
          clear hb hg hrd hcp hvt hsd hlp hR HR hc ho
          go_wp2_with fail
          refine (comps_calls w1 gg l.length k c next A out comp HG.out hn HCP.out).mono ?_
          rintro e w2 ⟨bc, rfl, hbc, hle, hb2⟩
          have hnx2 : next ≤ 1000000 := HCPB.out
          have HBC := Lib.hid hbc
          have HG2 := Lib.hid (HG.out.below hb2)
          have HRD2 := Lib.hid (HRD.out.below hb2)
          have HS12 := Lib.hid hb2.size
          have HBB : Hid (Below w.heap.size w w2) := Lib.hid (HB.out.trans (hb2.mono HB.out.size))
          have hm1 := fun wx => run_make_row' (P := Try.prog) 24 3 (.int .i64 0) 8 Try.underlying24 info_int rfl .i64 .i64 next (by omega) (by omega) wx
          have hm2 := fun wx => run_make_row' (P := Try.prog) 95 24 (.slice none 0 0) 24 Try.underlying95 info_ints rfl .i64 .i64 next (by omega) (by omega) wx
          clear hbc hle hb2 HCP HB HG HRD
          go_upto_region 5 with (fail)
          go_cut [10, 11, 12] (fun v10 v11 v12 wc => Hid (OStart w2 w2.heap.size next v10 v11 v12 wc))
          case first =>
            go_region
            all_goals go_wp2_with fail
            all_goals go_meet
            all_goals (exact Lib.hid (mk_ostart (by repeat (first | (refine At.made ?_ (made_ints next); simp; done) | refine At.drew ?_ | refine At.al ?_)) (by repeat (first | (refine At.made ?_ (made_nats next); simp; done) | refine At.drew ?_ | refine At.al ?_)) (by repeat (first | (refine At.made ?_ (made_rows next); simp; done) | refine At.drew ?_ | refine At.al ?_)) (by omega) (by omega) (by repeat (first | exact Below.refl _ _ | refine Below.drew ?_ | refine Below.alloc ?_ (by first | (simp; done) | (simp; omega)) _)) (by simp)))
          case rest =>
            clear hm1 hm2
            obtain ⟨bh, bi, bo, rfl, rfl, rfl, L, hA⟩ := hcut.out
            clear hcut
            obtain ⟨a, ha⟩ : ∃ a, w2.heap.size = a := ⟨_, rfl⟩
            rw [ha] at L hA
            have HL := Lib.hid L
            have HA := Lib.hid hA
            have HAE := Lib.hid ha
            obtain ⟨bog, valg, gr1, gr2, gr3, gr4, gr5, gr6⟩ := HG2.out.some
            have HGA := Lib.hid gr1
            have HGB := Lib.hid gr2
            have HGR := Lib.hid gr6
            clear gr1 gr2 gr3 gr4 gr5 gr6
            have hcl : comp.length = l.length := HCL.out
            have e1 : wrap64 ((l.length : Int) - 1) = (l.length : Int) - 1 := by unfold wrap64; omega
            clear L hA ha
            go_wp2_with fail
            go_loopg [13] l.length (fun kq v13 w' => ∃ q : Int, v13 = .int .i64 q ∧ q = (kq : Int) - 1 ∧ Hid (VRel w2 a bh bi bo next comp (sorted l) out (head, into, outs) kq w'))
            case atStart => exact ⟨_, rfl, rfl, Lib.hid ⟨_, _, _, _, HVT.out, HA.out⟩⟩
            case round =>
              clear HA HVT e1
              obtain ⟨q, rfl, hq, hI⟩ := hrel
              obtain ⟨vals, head1, into1, outs1, hv, hA⟩ := hI.out
              clear hI
              cases gk with
              | zero =>
                obtain rfl : q = -1 := by omega
                rw [vertsO] at hv
                obtain ⟨rfl, hv2⟩ := Prod.mk.inj (Option.some.inj hv)
                obtain ⟨rfl, rfl⟩ := Prod.mk.inj hv2
                have HA := Lib.hid hA
                clear hv hv2 hA hq
                go_wp2_with fail
                refine (Hp.newQ_calls _).mono ?_
                rintro e w4 ⟨hb, mb, rfl, hq, hbw, hlb, hlm⟩
                have hK : OK a wr.heap.size w4.heap.size hb mb vals := ⟨HA.out.hs, hlb, hlm, hbw.size, fun u v k h1 h2 => by
                  have hlt : u < outs1.length := by rw [HA.out.ho.lo, ← HA.out.ho.lv]; exact (List.getElem?_eq_some_iff.1 h1).1
                  exact ((HA.out.ho.own u v _ h1 (List.getElem?_eq_getElem hlt)).lt k h2).2⟩
                have hC : OC w2 a bh bi bo next w4.heap.size hb mb vals head1 into1 outs1 [] 0 w4 := ⟨HA.out.below HL.out hbw, hq, Nat.le_refl _⟩
                obtain ⟨base, hbase⟩ : ∃ base, w4.heap.size = base := ⟨_, rfl⟩
                obtain ⟨b, hbb⟩ : ∃ b, wr.heap.size = b := ⟨_, rfl⟩
                rw [hbase] at hK hC
                rw [hbb] at hK
                have HK := Lib.hid hK
                have HC := Lib.hid hC
                clear hK hC hq hbw hlb hlm HA hbase hbb
                go_wp2_with fail
                go_loopg [116] next (fun kq v116 w' => ∃ c : Nat, v116 = .int .i64 (c : Int) ∧ Hid (c + kq = next ∧ SRel w2 a bh bi bo next base hb mb vals head1 into1 outs1 (rs0, came0) kq c w'))
                case atStart => exact ⟨0, rfl, Lib.hid ⟨by omega, _, _, HSD.out, List.Pairwise.nil, HC.out⟩⟩
                case round =>
                  clear HSD HC
                  obtain ⟨c3, rfl, hI⟩ := hrel
                  obtain ⟨hck, rs, came, hsd, hpw, hC⟩ := hI.out
                  clear hI
                  by_cases hcn : c3 < next
                  · obtain ⟨k1, rfl⟩ : ∃ k1, gk = k1 + 1 := ⟨gk - 1, by omega⟩
                    rw [seedO] at hsd
                    have j0 : (0 : Int) ≤ (c3 : Int) := by omega
                    have j1 : (c3 : Int) < (next : Int) := by omega
                    have j2 : (next : Int) ≤ 1000000 := by omega
                    split at hsd
                    · cases hsd
                    · rename_i hi0
                      by_cases hcr : c3 ∉ rs ∧ came < 1000000
                      · rw [if_pos hcr] at hsd
                        have cin := hC.oa.hi.cell c3 (nats_at _ hi0)
                        have HS := Lib.hid hsd
                        have HC := Lib.hid hC
                        have HCR := Lib.hid hcr
                        have HPW := Lib.hid hpw
                        have HCK := Lib.hid hck
                        clear hsd hC hcr hpw hi0 hck
                        go_wp2_with fail
                        refine (Hp.pushQ_calls _ base hb mb b c3 came rs HC.out.q ⟨HK.out.bh, HK.out.bm⟩ HCR.out.1 HCR.out.2 HC.out.hs).mono ?_
                        rintro e w5 ⟨rfl, hq, hkq⟩
                        have HC2 := Lib.hid (HC.out.keep HL.out HK.out hkq hq)
                        clear hq hkq HC cin
                        go_wp2_with fail
                        go_roundg k1
                        case measure => omega
                        case rel => exact ⟨c3 + 1, by go_num, Lib.hid ⟨by have := HCK.out; omega, _, _, HS.out, insS_sorted _ _ HPW.out HCR.out.1, HC2.out⟩⟩
                      · rw [if_neg hcr] at hsd; cases hsd
                    · rename_i q1 hi0
                      obtain ⟨q2, hq2⟩ : ∃ q2, q1.succ = q2 := ⟨_, rfl⟩
                      have hi1 : into1[c3]? = some q2 := hq2 ▸ hi0
                      have cin := hC.oa.hi.cell c3 (nats_at _ hi1)
                      have e5 : ((q2 : Int) == 0) = false := beq_eq_false_iff_ne.2 (by omega)
                      have e6 : ¬ ((q2 : Int) = 0) := by omega
                      have HS := Lib.hid hsd
                      have HC := Lib.hid hC
                      have HPW := Lib.hid hpw
                      have HCK := Lib.hid hck
                      clear hsd hC hpw hi0 hi1 hq2 hck
                      go_wp2_with fail
                      go_roundg k1
                      case measure => omega
                      case rel => exact ⟨c3 + 1, by go_num, Lib.hid ⟨by have := HCK.out; omega, _, _, HS.out, HPW.out, HC.out⟩⟩
                  · obtain rfl : gk = 0 := by omega
                    rw [seedO] at hsd
                    obtain ⟨rfl, rfl⟩ := Prod.mk.inj (Option.some.inj hsd)
                    have HC := Lib.hid hC
                    have HPW := Lib.hid hpw
                    have j0 : (next : Int) ≤ (c3 : Int) := by omega
                    clear hsd hC hpw hck hcn
                    go_wp2_with fail
                    refine (popQ_calls _ base hb mb b came rs HC.out.q ⟨HK.out.bh, HK.out.bm⟩ HPW.out (loopO_came HLP.out)).mono ?_
                    rintro e w5 ⟨rfl, hq, hkq⟩
                    have HC2 := Lib.hid (HC.out.keep HL.out HK.out hkq hq)
                    clear hq hkq HC
                    go_wp2_with fail
                    go_loopg [18, 19, 21] k (fun kq v18 v19 v21 w' => Hid (LRel w2 a bh bi bo next base hb mb vals head1 outs1 told kq v18 v19 v21 w'))
                    case atStart => exact Lib.hid ⟨_, _, _, [], HLP.out, HPW.out, rfl, ⟨_, rfl, by cases rs <;> rfl⟩, HC2.out, World.ownsRow_nil _ _ _ _⟩
                    case round =>
                      clear HLP HC2 HPW
                      obtain ⟨into2, rs, came, td, hlp, hpw, rfl, ⟨c4, rfl, hc4⟩, hC, htd⟩ := hrel.out
                      clear hrel
                      cases gk with
                      | zero => simp [loopO] at hlp
                      | succ k1 =>
                        obtain ⟨A5, c5, rfl⟩ := own_slice htd
                        cases rs with
                        | nil =>
                          rw [loopO] at hlp
                          obtain rfl := Option.some.inj hlp
                          have HC := Lib.hid hC
                          have HT := Lib.hid htd
                          clear hlp hC htd hpw
                          rw [show (!List.isEmpty ([] : List Nat)) = false from rfl]
                          go_wp2_with fail
                          go_ret2
                          have ha := HAE.out
                          have hab := HK.out.ab
                          have hbb := HK.out.bb
                          have hs := HBB.out.size
                          exact ⟨HBB.out.trans (HC.out.oa.hb.mono (by omega)), fun h => absurd rfl h, fun _ => ⟨_, rfl, own_base HT.out (by omega)⟩⟩
                        | cons c6 rs6 =>
                          obtain rfl : c4 = c6 := hc4
                          rw [loopO] at hlp
                          split at hlp
                          · rename_i h0 row hh0 hrow
                            by_cases hck : td.length < 1000000 ∧ came < 1000000
                            · rw [if_pos hck] at hlp
                              cases hfr : freeO row into2 rs6 came with
                              | none => rw [hfr] at hlp; cases hlp
                              | some irm =>
                              obtain ⟨i7, rs7, m7⟩ := irm
                              rw [hfr] at hlp
                              have hc4n : c4 < next := by have := (List.getElem?_eq_some_iff.1 hh0).1; rw [hC.oa.lh] at this; exact this
                              have chh := hC.oa.hh.cell c4 (ints_at _ hh0)
                              obtain ⟨vl, hvl⟩ : ∃ vl, vals[c4]? = some vl := ⟨_, List.getElem?_eq_getElem (by rw [hC.oa.ho.lv]; exact hc4n)⟩
                              have hor := hC.oa.ho.own c4 vl row hvl hrow
                              obtain ⟨A6, cp6, rfl⟩ := own_slice hor
                              have c40 : (0 : Int) ≤ (c4 : Int) := by omega
                              have c41 : (c4 : Int) < (next : Int) := by omega
                              obtain ⟨i0, hi0, hz0, hz1, hz2⟩ := info_parts info_int
                              have hck1 := hck.1
                              have hpw6 := (List.pairwise_cons.1 hpw).2
                              have HLP := Lib.hid hlp
                              have HFR := Lib.hid hfr
                              have HC := Lib.hid hC
                              have HT := Lib.hid htd
                              have HPW := Lib.hid hpw6
                              have HVL := Lib.hid hvl
                              have HROW := Lib.hid hrow
                              have HCK := Lib.hid hck
                              clear hlp hfr hC htd hpw hpw6 hvl hrow hor hh0 hck
                              rw [show (!List.isEmpty (c4 :: rs6)) = true from rfl]
                              go_wp2_with ((at_builtin; refine wpList_append_lies _ rfl (.tmp 142) (.tmp 147) 24 rfl base 3 i0 (.int .i64 0) 1 8 Try.underlying24 hi0 hz0 hz1 hz2 rfl (by omega) _ td.length _ rfl (HT.out.alloc _) ⟨wr.heap.size, 0, none⟩ 1 1 [.int .i64 h0] rfl rfl (cell_one_new _ _ _) (by simp [Value.oneCell']) (by omega) (by unfold maxLen; omega) (by omega) (by have := HC.out.hs; simp; omega) _ rfl ?_; intro g2 cap2 w6 hown hgrow hat hlt; have hC6 := (HC.out.al HL.out (.cells #[.int .i64 h0] 3)).grown HL.out HK.out (HT.out.alloc (.cells #[.int .i64 h0] 3)) hgrow; rw [ints_snoc] at hown; have dro := hC6.oa.ho.hat.cell c4 HVL.out; have HC6 := Lib.hid hC6; have HO6 := Lib.hid hown; obtain ⟨m, hm⟩ : ∃ m, td.length + 1 = m := ⟨_, rfl⟩; rw [hm] at HO6 ⊢; have HM := Lib.hid hm; clear hC6 hown hgrow hat hlt HC HT chh hck1 hm))
                              go_loopg [154] row.length (fun kq v154 w' => ∃ j : Nat, v154 = .int .i64 (j : Int) ∧ Hid (j + kq = row.length ∧ FRel w2 a bh bi bo next base hb mb vals head1 outs1 row (td ++ [h0]) (.slice (some ⟨g2, 0, none⟩) m cap2) (i7, rs7, m7) j w'))
                              case atStart => exact ⟨0, rfl, Lib.hid ⟨by omega, _, _, _, HFR.out, HPW.out, HC6.out, by have := HO6.out; have hm := HM.out; rw [List.length_append, List.length_singleton, hm]; exact this⟩⟩
                              case round =>
                                clear HC6 HO6 HFR HPW dro
                                obtain ⟨j, rfl, hI⟩ := hrel
                                obtain ⟨hjk, into8, rs8, came8, hfr, hpw, hC, htd⟩ := hI.out
                                clear hI
                                by_cases hj : j < row.length
                                · obtain ⟨d, hd⟩ : ∃ d, row[j] = d := ⟨_, rfl⟩
                                  rw [List.drop_eq_getElem_cons hj, hd, freeO] at hfr
                                  have hor := hC.oa.ho.own c4 _ row HVL.out HROW.out
                                  obtain ⟨g6, cap6, he6, _, _⟩ := hor.form (by omega)
                                  cases he6
                                  have crow := (hor.cellAt j (by omega)).trans (nats_at row (show row[j]? = some d by rw [List.getElem?_eq_getElem hj, hd]))
                                  obtain ⟨k2, rfl⟩ : ∃ k2, gk = k2 + 1 := ⟨gk - 1, by omega⟩
                                  split at hfr
                                  · rename_i q hq
                                    by_cases hqb : q < 1000000
                                    · rw [if_pos hqb] at hfr
                                      obtain ⟨q2, hq2⟩ : ∃ q2, q.succ = q2 := ⟨_, rfl⟩
                                      have hq3 : into8[d]? = some q2 := hq2 ▸ hq
                                      have hdn : d < next := by have := (List.getElem?_eq_some_iff.1 hq3).1; rw [hC.oa.li] at this; exact this
                                      have cin := hC.oa.hi.cell d (nats_at _ hq3)
                                      have fin := hC.oa.hi.free d
                                      have d0 : (0 : Int) ≤ (d : Int) := by omega
                                      have d1 : (d : Int) < (next : Int) := by omega
                                      have j0 : (0 : Int) ≤ (j : Int) := by omega
                                      have j1 : (j : Int) < (row.length : Int) := by omega
                                      have hrl : (row.length : Int) ≤ 9223372036854775807 := by have := own_max hor; omega
                                      have e7 : wrap64 ((q2 : Int) - 1) = (q : Int) := by unfold wrap64; omega
                                      have HC := Lib.hid (hC.setInto HL.out HK.out d q)
                                      have HT := Lib.hid (htd.setB (g := bi) (i := d) (u := .int .i64 (q : Int)) (by have := HL.out.i1; have := HK.out.ab; have := HK.out.bb; omega))
                                      have HJK := Lib.hid hjk
                                      by_cases hq0 : q = 0
                                      · rw [if_pos hq0] at hfr
                                        by_cases hcr : d ∉ rs8 ∧ came8 < 1000000
                                        · rw [if_pos hcr] at hfr
                                          have HFR := Lib.hid hfr
                                          have HPW := Lib.hid hpw
                                          have HCR := Lib.hid hcr
                                          subst hq0
                                          clear hfr hpw hC htd hor hcr hq hq2 hq3 hjk hd
                                          go_wp2_with fail
                                          refine (Hp.pushQ_calls _ base hb mb b d came8 rs8 HC.out.q ⟨HK.out.bh, HK.out.bm⟩ HCR.out.1 HCR.out.2 HC.out.hs).mono ?_
                                          rintro e w7 ⟨rfl, hq, hkq⟩
                                          have HC2 := Lib.hid (HC.out.keep HL.out HK.out hkq hq)
                                          have HT2 := Lib.hid (hkq.2 _ _ _ _ HT.out)
                                          clear hq hkq HC HT cin fin crow
                                          go_wp2_with fail
                                          go_roundg k2
                                          case measure => omega
                                          case rel => exact ⟨j + 1, by go_num, Lib.hid ⟨by have := HJK.out; omega, _, _, _, HFR.out, insS_sorted _ _ HPW.out HCR.out.1, HC2.out, HT2.out⟩⟩
                                        · rw [if_neg hcr] at hfr; cases hfr
                                      · rw [if_neg hq0] at hfr
                                        have e5 : ((q : Int) == 0) = false := beq_eq_false_iff_ne.2 (by omega)
                                        have e6 : ¬ ((q : Int) = 0) := by omega
                                        have HFR := Lib.hid hfr
                                        have HPW := Lib.hid hpw
                                        clear hfr hpw hC htd hor hq hq2 hq3 hjk hd hq0
                                        go_wp2_with fail
                                        go_roundg k2
                                        case measure => omega
                                        case rel => exact ⟨j + 1, by go_num, Lib.hid ⟨by have := HJK.out; omega, _, _, _, HFR.out, HPW.out, HC.out, HT.out⟩⟩
                                    · rw [if_neg hqb] at hfr; cases hfr
                                  · cases hfr
                                · obtain rfl : gk = 0 := by omega
                                  have hjn : row.drop j = [] := List.drop_eq_nil_of_le (by omega)
                                  rw [hjn, freeO] at hfr
                                  obtain ⟨rfl, hfr2⟩ := Prod.mk.inj (Option.some.inj hfr)
                                  obtain ⟨rfl, rfl⟩ := Prod.mk.inj hfr2
                                  have j0 : (row.length : Int) ≤ (j : Int) := by omega
                                  have HC := Lib.hid hC
                                  have HT := Lib.hid htd
                                  have HPW := Lib.hid hpw
                                  clear hfr hfr2 hC htd hpw hjn hj hjk
                                  go_wp2_with fail
                                  refine (popQ_calls _ base hb mb b came8 rs8 HC.out.q ⟨HK.out.bh, HK.out.bm⟩ HPW.out (loopO_came HLP.out)).mono ?_
                                  rintro e w7 ⟨rfl, hq, hkq⟩
                                  have HC2 := Lib.hid (HC.out.keep HL.out HK.out hkq hq)
                                  have HT2 := Lib.hid (hkq.2 _ _ _ _ HT.out)
                                  clear hq hkq HC HT
                                  go_wp2_with fail
                                  go_roundg k1
                                  case measure => omega
                                  case rel => exact Lib.hid ⟨_, _, _, _, HLP.out, HPW.out, rfl, ⟨_, rfl, by cases rs8 <;> rfl⟩, HC2.out, HT2.out⟩
                            · rw [if_neg hck] at hlp; cases hlp
                          · cases hlp
              | succ v =>
                obtain rfl : q = (v : Int) := by omega
                clear hq
                rw [vertsO] at hv
                split at hv
                · rename_i c0 x row hc0 hx hrow
                  by_cases hch : c0 < head1.length
                  · rw [if_pos hch] at hv
                    cases hro : rowO comp c0 row into1 outs1 with
                    | none => rw [hro] at hv; cases hv
                    | some io =>
                    obtain ⟨into2, outs2⟩ := io
                    rw [hro] at hv
                    have hvl : v < l.length := by have := (List.getElem?_eq_some_iff.1 hc0).1; omega
                    rw [hA.lh] at hch
                    have hb' : Below w2.heap.size w2 wr := by rw [HAE.out]; exact hA.hb
                    have cbc := (HBC.out.below hb' HBC.out.lt).cell v (nats_at _ hc0)
                    obtain ⟨bs, rfl, hcx⟩ := (HRD2.out.below hb') v x hx
                    have d0 := (HGA.out.below hb' HGA.out.lt).cell 0 rfl
                    obtain ⟨h0, hh0⟩ : ∃ h0, head1[c0]? = some h0 := ⟨_, List.getElem?_eq_getElem (by rw [hA.lh]; exact hch)⟩
                    have chh := hA.hh.cell c0 (ints_at _ hh0)
                    have fhh := hA.hh.free c0
                    have v0 : (0 : Int) ≤ (v : Int) := by omega
                    have v1 : (v : Int) < (l.length : Int) := by omega
                    have c00 : (0 : Int) ≤ (c0 : Int) := by omega
                    have c01 : (c0 : Int) < (next : Int) := by omega
                    have v3 : wrap64 ((v : Int) - 1) = (v : Int) - 1 := by unfold wrap64; omega
                    have HV := Lib.hid hv
                    have HRO := Lib.hid hro
                    have HC0 := Lib.hid hc0
                    have HX := Lib.hid hx
                    have HROW := Lib.hid hrow
                    have HA1 := Lib.hid ((hA.drew).setHead HL.out c0 x)
                    clear hv hro hA hb' hc0 hx hrow hh0
                    go_wp2_with fail
                    refine start_ (n := 14) (S := fun w' => w'.cell? ⟨bc, v, none⟩ = some (.int .i64 (c0 : Int)) ∧ w'.cell? ⟨gg, 0, none⟩ = some (.slice (some ⟨bs, 0, none⟩) l.length c) ∧ w'.cell? ⟨bs, v, none⟩ = some (.int .i64 x)) (ds := [13]) (bA 14 0) (by kernel_rfl) rfl rfl ⟨cbc, d0, hcx⟩ (fun hHeld => ?_)
                    refine with_tabW tb45_9.tab9 tb45_9.bits9 (fun HT_ HW_ => ?_)
                    refine pure_ (i := 0) (N := some 51) (v := ?_) (a' := ?_) (bA 14 1) rfl rfl (any_of HT_.out (by kernel_rfl)) (fun _ _ _ h => h) (Or.inl ⟨by rfl, ?_⟩) ?_ ?_
                    rotate_left; · intro w'; go_simp; with_reducible rfl
                    rotate_left; · simp only [Act.put, pA, pB, pC, pD, pE]; rfl
                    refine pure_ (i := 1) (N := some 52) (v := ?_) (a' := ?_) (bA 14 3) rfl rfl (any_of HT_.out (by kernel_rfl)) (fun _ _ _ h => h) (Or.inl ⟨by rfl, ?_⟩) ?_ ?_
                    rotate_left; · intro w'; go_simp; with_reducible rfl
                    rotate_left; · simp only [Act.put, pA, pB, pC, pD, pE]; rfl
                    refine pure_ (i := 2) (N := some 53) (v := ?_) (a' := ?_) (bA 14 7) rfl rfl (any_of HT_.out (by kernel_rfl)) (fun _ _ _ h => h) (Or.inl ⟨by rfl, ?_⟩) ?_ ?_
                    rotate_left; · intro w'; go_simp; with_reducible rfl
                    rotate_left; · simp only [Act.put, pA, pB, pC, pD, pE]; rfl
                    refine pure_ (i := 3) (N := some 54) (v := ?_) (a' := ?_) (bA 14 15) rfl rfl (any_of HT_.out (by kernel_rfl)) (fun _ _ _ h => h) (Or.inl ⟨by rfl, ?_⟩) ?_ ?_
                    rotate_left; · intro w'; go_simp; with_reducible rfl
                    rotate_left; · simp only [Act.put, pA, pB, pC, pD, pE]; rfl
                    refine pure_ (i := 5) (N := some 56) (v := ?_) (a' := ?_) (bA 14 47) rfl rfl (any_of HT_.out (by kernel_rfl)) (fun _ _ _ h => h) (Or.inl ⟨by rfl, ?_⟩) ?_ ?_
                    rotate_left; · intro w'; go_simp; with_reducible rfl
                    rotate_left; · simp only [Act.put, pA, pB, pC, pD, pE]; rfl
                    refine pure_ (i := 6) (N := some 57) (v := ?_) (a' := ?_) (bA 14 111) rfl rfl (any_of HT_.out (by kernel_rfl)) (fun _ _ _ h => h) (Or.inl ⟨by rfl, ?_⟩) ?_ ?_
                    rotate_left; · intro w'; go_simp; with_reducible rfl
                    rotate_left; · simp only [Act.put, pA, pB, pC, pD, pE]; rfl
                    refine pure_ (i := 7) (N := some 58) (v := ?_) (a' := ?_) (bA 14 239) rfl rfl (any_of HT_.out (by kernel_rfl)) (fun _ _ _ h => h) (Or.inl ⟨by rfl, ?_⟩) ?_ ?_
                    rotate_left; · intro w'; go_simp; with_reducible rfl
                    rotate_left; · simp only [Act.put, pA, pB, pC, pD, pE]; rfl
                    refine pure_ (i := 9) (N := some 60) (v := ?_) (a' := ?_) (bA 14 751) rfl rfl (any_of HT_.out (by kernel_rfl)) (fun _ _ _ h => h) (Or.inl ⟨by rfl, ?_⟩) ?_ ?_
                    rotate_left; · intro w'; go_simp; with_reducible rfl
                    rotate_left; · simp only [Act.put, pA, pB, pC, pD, pE]; rfl
                    refine take_ (i := 4) (N := some 55) (v := ?_) (a' := ?_) (bA 14 767) rfl rfl (take_ofW HT_.out HW_.out (by kernel_rfl)) (fun _ _ _ h => h) (Or.inl ⟨by rfl, ?_⟩) hHeld ?_ ?_
                    rotate_left
                    · rintro w' ⟨s0, s1, s2⟩
                      go_simp; with_reducible rfl
                    rotate_left; · simp only [Act.put, pA, pB, pC, pD, pE]; rfl
                    refine take_ (i := 8) (N := some 59) (v := ?_) (a' := ?_) (bA 14 1023) rfl rfl (take_ofW HT_.out HW_.out (by kernel_rfl)) (fun _ _ _ h => h) (Or.inl ⟨by rfl, ?_⟩) hHeld ?_ ?_
                    rotate_left
                    · rintro w' ⟨s0, s1, s2⟩
                      go_simp; with_reducible rfl
                    rotate_left; · simp only [Act.put, pA, pB, pC, pD, pE]; rfl
                    refine pure_ (i := 10) (N := some 61) (v := ?_) (a' := ?_) (bA 14 2047) rfl rfl (any_of HT_.out (by kernel_rfl)) (fun _ _ _ h => h) (Or.inl ⟨by rfl, ?_⟩) ?_ ?_
                    rotate_left; · intro w'; go_simp; with_reducible rfl
                    rotate_left; · simp only [Act.put, pA, pB, pC, pD, pE]; rfl
                    refine take_ (i := 11) (N := some 62) (v := ?_) (a' := ?_) (bA 14 4095) rfl rfl (take_ofW HT_.out HW_.out (by kernel_rfl)) (fun _ _ _ h => h) (Or.inl ⟨by rfl, ?_⟩) hHeld ?_ ?_
                    rotate_left
                    · rintro w' ⟨s0, s1, s2⟩
                      go_simp; with_reducible rfl
                    rotate_left; · simp only [Act.put, pA, pB, pC, pD, pE]; rfl
                    refine pure_ (i := 12) (N := some 63) (v := ?_) (a' := ?_) (bA 14 8191) rfl rfl (any_of HT_.out (by kernel_rfl)) (fun _ _ _ h => h) (Or.inl ⟨by rfl, ?_⟩) ?_ ?_
                    rotate_left; · intro w'; go_simp; with_reducible rfl
                    rotate_left; · simp only [Act.put, pA, pB, pC, pD, pE]; rfl
                    refine last_ (i := 13) (N := none) (bA 14 16383) rfl rfl (one_of HT_.out (by kernel_rfl)) (by decide) (fun K hK => ?_)
                    refine skip_ (w1 := ?_) (by rfl) rfl ?_ ?_
                    rotate_left; · go_simp; rfl
                    refine hK.out _ _ ?_; clear hK K
                    refine done_ (done_of HT_.out (by kernel_rfl)) ?_
                    clear hHeld HT_ HW_
                    refine gen_then (fun W => OA w2 a bh bi bo next vals (head1.set c0 x) into1 outs1 W) HA1.out ?_
                    clear cbc d0 hcx chh fhh HA1
                    intro W hA
                    have hb' : Below w2.heap.size w2 W := by rw [HAE.out]; exact hA.hb
                    obtain ⟨A2, c2, gr7, gr8, gr9⟩ := HGR.out v row HROW.out
                    have d1 := (HGA.out.below hb' HGA.out.lt).cell 1 rfl
                    have d2 := (HGB.out.below hb' HGB.out.lt).cell v gr7
                    have HA2 := Lib.hid hA
                    have HLR := Lib.hid gr8
                    have HG9 := Lib.hid gr9
                    clear hA hb' gr7 gr9 gr8
                    go_wp2_with fail
                    go_loopg [72] row.length (fun kq v72 w' => ∃ j : Nat, v72 = .int .i64 (j : Int) ∧ Hid (j + kq = row.length ∧ RRel w2 a bh bi bo next c0 comp row (head1.set c0 x) (into2, outs2) j w'))
                    case atStart => exact ⟨0, rfl, Lib.hid ⟨by omega, _, _, _, HRO.out, HA2.out⟩⟩
                    case round =>
                      clear HA2 HRO d1 d2
                      obtain ⟨j, rfl, hI⟩ := hrel
                      obtain ⟨hjk, vals2, into3, outs3, hro, hA⟩ := hI.out
                      clear hI
                      by_cases hj : j < row.length
                      · obtain ⟨y, hy⟩ : ∃ y, row[j] = y := ⟨_, rfl⟩
                        rw [List.drop_eq_getElem_cons hj, hy, rowO] at hro
                        have hb' : Below w2.heap.size w2 wr := by rw [HAE.out]; exact hA.hb
                        obtain ⟨b2, rfl, _, e3⟩ := HG9.out j y (by rw [List.getElem?_eq_getElem hj, hy])
                        have crow := (hb'.cell (p := ⟨b2, j, none⟩) (World.block_lt_of_cell? _ _ e3)).trans e3
                        have cbv := (HBC.out.below hb' HBC.out.lt).cell v (nats_at _ HC0.out)
                        obtain ⟨k1, hk1⟩ : ∃ k1, gk = k1 + 1 := ⟨gk - 1, by omega⟩
                        have j0 : (0 : Int) ≤ (j : Int) := by omega
                        have j1 : (j : Int) < (row.length : Int) := by omega
                        have j2 : (row.length : Int) ≤ 1000000 := by have := HLR.out; omega
                        have HJK := Lib.hid hjk
                        have HK1 := Lib.hid hk1
                        split at hro
                        · cases hro
                        · rename_i cy hcy
                          have hyl : y < l.length := by have := (List.getElem?_eq_some_iff.1 hcy).1; omega
                          have cby := (HBC.out.below hb' HBC.out.lt).cell y (nats_at _ hcy)
                          have y0 : (0 : Int) ≤ (y : Int) := by omega
                          have y1 : (y : Int) < (l.length : Int) := by omega
                          by_cases hcc : cy = c0
                          · rw [if_pos hcc] at hro
                            have e5 : ((cy : Int) == (c0 : Int)) = true := by rw [hcc]; simp
                            have e6 : ((cy : Int) != (c0 : Int)) = false := by rw [bne, e5]; rfl
                            have HRO := Lib.hid hro
                            have HA2 := Lib.hid hA
                            clear hro hA hb' hjk hk1 hcy hcc e3 hy
                            go_wp2_with fail
                            refine start_ (n := 9) (S := fun w' => w'.cell? ⟨bc, v, none⟩ = some (.int .i64 (c0 : Int)) ∧ w'.cell? ⟨bc, y, none⟩ = some (.int .i64 (cy : Int))) (ds := []) (bA 9 0) (by kernel_rfl) rfl rfl ⟨cbv, cby⟩ (fun hHeld => ?_)
                            refine with_tabW tb45_13.tab13 tb45_13.bits13 (fun HT_ HW_ => ?_)
                            refine pure_ (i := 0) (N := some 76) (v := ?_) (a' := ?_) (bA 9 1) rfl rfl (any_of HT_.out (by kernel_rfl)) (fun _ _ _ h => h) (Or.inl ⟨by rfl, ?_⟩) ?_ ?_
                            rotate_left; · intro w'; go_simp; with_reducible rfl
                            rotate_left; · simp only [Act.put, pA, pB, pC, pD, pE]; rfl
                            refine pure_ (i := 1) (N := some 77) (v := ?_) (a' := ?_) (bA 9 3) rfl rfl (any_of HT_.out (by kernel_rfl)) (fun _ _ _ h => h) (Or.inl ⟨by rfl, ?_⟩) ?_ ?_
                            rotate_left; · intro w'; go_simp; with_reducible rfl
                            rotate_left; · simp only [Act.put, pA, pB, pC, pD, pE]; rfl
                            refine pure_ (i := 2) (N := some 78) (v := ?_) (a' := ?_) (bA 9 7) rfl rfl (any_of HT_.out (by kernel_rfl)) (fun _ _ _ h => h) (Or.inl ⟨by rfl, ?_⟩) ?_ ?_
                            rotate_left; · intro w'; go_simp; with_reducible rfl
                            rotate_left; · simp only [Act.put, pA, pB, pC, pD, pE]; rfl
                            refine pure_ (i := 4) (N := some 80) (v := ?_) (a' := ?_) (bA 9 23) rfl rfl (any_of HT_.out (by kernel_rfl)) (fun _ _ _ h => h) (Or.inl ⟨by rfl, ?_⟩) ?_ ?_
                            rotate_left; · intro w'; go_simp; with_reducible rfl
                            rotate_left; · simp only [Act.put, pA, pB, pC, pD, pE]; rfl
                            refine pure_ (i := 5) (N := some 81) (v := ?_) (a' := ?_) (bA 9 55) rfl rfl (any_of HT_.out (by kernel_rfl)) (fun _ _ _ h => h) (Or.inl ⟨by rfl, ?_⟩) ?_ ?_
                            rotate_left; · intro w'; go_simp; with_reducible rfl
                            rotate_left; · simp only [Act.put, pA, pB, pC, pD, pE]; rfl
                            refine pure_ (i := 6) (N := some 82) (v := ?_) (a' := ?_) (bA 9 119) rfl rfl (any_of HT_.out (by kernel_rfl)) (fun _ _ _ h => h) (Or.inl ⟨by rfl, ?_⟩) ?_ ?_
                            rotate_left; · intro w'; go_simp; with_reducible rfl
                            rotate_left; · simp only [Act.put, pA, pB, pC, pD, pE]; rfl
                            refine take_ (i := 3) (N := some 79) (v := ?_) (a' := ?_) (bA 9 127) rfl rfl (take_ofW HT_.out HW_.out (by kernel_rfl)) (fun _ _ _ h => h) (Or.inl ⟨by rfl, ?_⟩) hHeld ?_ ?_
                            rotate_left
                            · rintro w' ⟨s0, s1⟩
                              go_simp; with_reducible rfl
                            rotate_left; · simp only [Act.put, pA, pB, pC, pD, pE]; rfl
                            refine take_ (i := 7) (N := some 83) (v := ?_) (a' := ?_) (bA 9 255) rfl rfl (take_ofW HT_.out HW_.out (by kernel_rfl)) (fun _ _ _ h => h) (Or.inl ⟨by rfl, ?_⟩) hHeld ?_ ?_
                            rotate_left
                            · rintro w' ⟨s0, s1⟩
                              go_simp; with_reducible rfl
                            rotate_left; · simp only [Act.put, pA, pB, pC, pD, pE]; rfl
                            refine pure_ (i := 8) (N := some 84) (v := ?_) (a' := ?_) (bA 9 511) rfl rfl (any_of HT_.out (by kernel_rfl)) (fun _ _ _ h => h) (Or.inl ⟨by rfl, ?_⟩) ?_ ?_
                            rotate_left; · intro w'; go_simp; with_reducible rfl
                            rotate_left; · simp only [Act.put, pA, pB, pC, pD, pE]; rfl
                            refine done_ (done_of HT_.out (by kernel_rfl)) ?_
                            clear hHeld HT_ HW_
                            go_wp2_with fail
                            go_roundg k1
                            case measure => have := HK1.out; omega
                            case rel => exact ⟨j + 1, by go_num, Lib.hid ⟨by have := HJK.out; have := HK1.out; omega, _, _, _, HRO.out, HA2.out.drewN 1⟩⟩
                          · rw [if_neg hcc] at hro
                            by_cases hck : (cy < into3.length ∧ into3.getD cy 0 < 1000000) ∧ c0 < outs3.length ∧ (outs3.getD c0 []).length < 1000000
                            · rw [if_pos hck] at hro
                              obtain ⟨⟨hk1', hk2⟩, hk3, hk4⟩ := hck
                              rw [hA.li] at hk1'
                              obtain ⟨q, hq⟩ : ∃ q, into3[cy]? = some q := ⟨_, List.getElem?_eq_getElem (by rw [hA.li]; exact hk1')⟩
                              have hqd : into3.getD cy 0 = q := by rw [List.getD_eq_getElem?_getD, hq]; rfl
                              rw [hqd] at hro hk2
                              obtain ⟨r, hr⟩ : ∃ r, outs3[c0]? = some r := ⟨_, List.getElem?_eq_getElem hk3⟩
                              have hrd : outs3.getD c0 [] = r := by rw [List.getD_eq_getElem?_getD, hr]; rfl
                              rw [hrd] at hro hk4
                              rw [hA.ho.lo] at hk3
                              have e5 : ((cy : Int) == (c0 : Int)) = false := beq_eq_false_iff_ne.2 (by omega)
                              have e6 : ((cy : Int) != (c0 : Int)) = true := by rw [bne, e5]; rfl
                              have e7 : wrap64 ((q : Int) + 1) = (q : Int) + 1 := by unfold wrap64; omega
                              have cin := hA.hi.cell cy (nats_at _ hq)
                              have fin := hA.hi.free cy
                              have z0 : (0 : Int) ≤ (cy : Int) := by omega
                              have z1 : (cy : Int) < (next : Int) := by omega
                              have c00 : (0 : Int) ≤ (c0 : Int) := by omega
                              have c01 : (c0 : Int) < (next : Int) := by omega
                              have HRO := Lib.hid hro
                              have HA2 := Lib.hid ((hA.drewN 1).setInto HL.out cy (q + 1))
                              have HR3 := Lib.hid hr
                              have HCY := Lib.hid hcy
                              clear hro hA hb' hjk hk1 hcy hcc e3 hy hq hqd hr hrd hk1' hk2 hk3
                              go_wp2_with fail
                              refine start_ (n := 9) (S := fun w' => w'.cell? ⟨bc, v, none⟩ = some (.int .i64 (c0 : Int)) ∧ w'.cell? ⟨bc, y, none⟩ = some (.int .i64 (cy : Int))) (ds := []) (bA 9 0) (by kernel_rfl) rfl rfl ⟨cbv, cby⟩ (fun hHeld => ?_)
                              refine with_tabW tb45_13.tab13 tb45_13.bits13 (fun HT_ HW_ => ?_)
                              refine pure_ (i := 0) (N := some 76) (v := ?_) (a' := ?_) (bA 9 1) rfl rfl (any_of HT_.out (by kernel_rfl)) (fun _ _ _ h => h) (Or.inl ⟨by rfl, ?_⟩) ?_ ?_
                              rotate_left; · intro w'; go_simp; with_reducible rfl
                              rotate_left; · simp only [Act.put, pA, pB, pC, pD, pE]; rfl
                              refine pure_ (i := 1) (N := some 77) (v := ?_) (a' := ?_) (bA 9 3) rfl rfl (any_of HT_.out (by kernel_rfl)) (fun _ _ _ h => h) (Or.inl ⟨by rfl, ?_⟩) ?_ ?_
                              rotate_left; · intro w'; go_simp; with_reducible rfl
                              rotate_left; · simp only [Act.put, pA, pB, pC, pD, pE]; rfl
                              refine pure_ (i := 2) (N := some 78) (v := ?_) (a' := ?_) (bA 9 7) rfl rfl (any_of HT_.out (by kernel_rfl)) (fun _ _ _ h => h) (Or.inl ⟨by rfl, ?_⟩) ?_ ?_
                              rotate_left; · intro w'; go_simp; with_reducible rfl
                              rotate_left; · simp only [Act.put, pA, pB, pC, pD, pE]; rfl
                              refine pure_ (i := 4) (N := some 80) (v := ?_) (a' := ?_) (bA 9 23) rfl rfl (any_of HT_.out (by kernel_rfl)) (fun _ _ _ h => h) (Or.inl ⟨by rfl, ?_⟩) ?_ ?_
                              rotate_left; · intro w'; go_simp; with_reducible rfl
                              rotate_left; · simp only [Act.put, pA, pB, pC, pD, pE]; rfl
                              refine pure_ (i := 5) (N := some 81) (v := ?_) (a' := ?_) (bA 9 55) rfl rfl (any_of HT_.out (by kernel_rfl)) (fun _ _ _ h => h) (Or.inl ⟨by rfl, ?_⟩) ?_ ?_
                              rotate_left; · intro w'; go_simp; with_reducible rfl
                              rotate_left; · simp only [Act.put, pA, pB, pC, pD, pE]; rfl
                              refine pure_ (i := 6) (N := some 82) (v := ?_) (a' := ?_) (bA 9 119) rfl rfl (any_of HT_.out (by kernel_rfl)) (fun _ _ _ h => h) (Or.inl ⟨by rfl, ?_⟩) ?_ ?_
                              rotate_left; · intro w'; go_simp; with_reducible rfl
                              rotate_left; · simp only [Act.put, pA, pB, pC, pD, pE]; rfl
                              refine take_ (i := 3) (N := some 79) (v := ?_) (a' := ?_) (bA 9 127) rfl rfl (take_ofW HT_.out HW_.out (by kernel_rfl)) (fun _ _ _ h => h) (Or.inl ⟨by rfl, ?_⟩) hHeld ?_ ?_
                              rotate_left
                              · rintro w' ⟨s0, s1⟩
                                go_simp; with_reducible rfl
                              rotate_left; · simp only [Act.put, pA, pB, pC, pD, pE]; rfl
                              refine take_ (i := 7) (N := some 83) (v := ?_) (a' := ?_) (bA 9 255) rfl rfl (take_ofW HT_.out HW_.out (by kernel_rfl)) (fun _ _ _ h => h) (Or.inl ⟨by rfl, ?_⟩) hHeld ?_ ?_
                              rotate_left
                              · rintro w' ⟨s0, s1⟩
                                go_simp; with_reducible rfl
                              rotate_left; · simp only [Act.put, pA, pB, pC, pD, pE]; rfl
                              refine pure_ (i := 8) (N := some 84) (v := ?_) (a' := ?_) (bA 9 511) rfl rfl (any_of HT_.out (by kernel_rfl)) (fun _ _ _ h => h) (Or.inl ⟨by rfl, ?_⟩) ?_ ?_
                              rotate_left; · intro w'; go_simp; with_reducible rfl
                              rotate_left; · simp only [Act.put, pA, pB, pC, pD, pE]; rfl
                              refine done_ (done_of HT_.out (by kernel_rfl)) ?_
                              clear hHeld HT_ HW_
                              go_wp2_with fail
                              refine gen_world (fun W => OA w2 a bh bi bo next vals2 (head1.set c0 x) (into3.set cy (q + 1)) outs3 W) HA2.out ?_
                              clear cbv cby cin fin HA2 crow e5 e6 e7
                              intro W3 hA
                              have hb' : Below w2.heap.size w2 W3 := by rw [HAE.out]; exact hA.hb
                              have hbcA := HBC.out.below hb' HBC.out.lt
                              have cbv := hbcA.cell v (nats_at _ HC0.out)
                              have cby := hbcA.cell y (nats_at _ HCY.out)
                              obtain ⟨vl, hvl⟩ : ∃ vl, vals2[c0]? = some vl := ⟨_, List.getElem?_eq_getElem (by rw [hA.ho.lv]; omega)⟩
                              have hrow := hA.ho.own c0 vl r hvl HR3.out
                              obtain ⟨A4, c4, rfl⟩ := own_slice hrow
                              have dro := hA.ho.hat.cell c0 hvl
                              have hnb : some bc ≠ (Value.slice A4 r.length c4).ownBlock := own_under hrow (by have := HBC.out.lt; have := HAE.out; omega)
                              obtain ⟨i0, hi0, hz0, hz1, hz2⟩ := info_parts info_int
                              have HA3 := Lib.hid hA
                              have HBA := Lib.hid hbcA
                              have HVL := Lib.hid hvl
                              have HRW := Lib.hid hrow
                              have HNB := Lib.hid hnb
                              clear hA hb' hbcA hvl hrow hnb
                              refine start_ (n := 20) (S := fun w' => w'.cell? ⟨bc, v, none⟩ = some (.int .i64 (c0 : Int)) ∧ w'.cell? ⟨bo, c0, none⟩ = some (.slice A4 r.length c4) ∧ w'.cell? ⟨bc, y, none⟩ = some (.int .i64 (cy : Int))) (ds := [19]) (bA 20 0) (by kernel_rfl) rfl rfl ⟨cbv, dro, cby⟩ (fun hHeld => ?_)
                              refine with_tabW tb45_15.tab15 tb45_15.bits15 (fun HT_ HW_ => ?_)
                              refine pure_ (i := 0) (N := some 94) (v := ?_) (a' := ?_) (bA 20 1) rfl rfl (any_of HT_.out (by kernel_rfl)) (fun _ _ _ h => h) (Or.inl ⟨by rfl, ?_⟩) ?_ ?_
                              rotate_left; · intro w'; go_simp; with_reducible rfl
                              rotate_left; · simp only [Act.put, pA, pB, pC, pD, pE]; rfl
                              refine pure_ (i := 1) (N := some 95) (v := ?_) (a' := ?_) (bA 20 3) rfl rfl (any_of HT_.out (by kernel_rfl)) (fun _ _ _ h => h) (Or.inl ⟨by rfl, ?_⟩) ?_ ?_
                              rotate_left; · intro w'; go_simp; with_reducible rfl
                              rotate_left; · simp only [Act.put, pA, pB, pC, pD, pE]; rfl
                              refine pure_ (i := 2) (N := some 96) (v := ?_) (a' := ?_) (bA 20 7) rfl rfl (any_of HT_.out (by kernel_rfl)) (fun _ _ _ h => h) (Or.inl ⟨by rfl, ?_⟩) ?_ ?_
                              rotate_left; · intro w'; go_simp; with_reducible rfl
                              rotate_left; · simp only [Act.put, pA, pB, pC, pD, pE]; rfl
                              refine pure_ (i := 3) (N := some 97) (v := ?_) (a' := ?_) (bA 20 15) rfl rfl (any_of HT_.out (by kernel_rfl)) (fun _ _ _ h => h) (Or.inl ⟨by rfl, ?_⟩) ?_ ?_
                              rotate_left; · intro w'; go_simp; with_reducible rfl
                              rotate_left; · simp only [Act.put, pA, pB, pC, pD, pE]; rfl
                              refine pure_ (i := 5) (N := some 99) (v := ?_) (a' := ?_) (bA 20 47) rfl rfl (any_of HT_.out (by kernel_rfl)) (fun _ _ _ h => h) (Or.inl ⟨by rfl, ?_⟩) ?_ ?_
                              rotate_left; · intro w'; go_simp; with_reducible rfl
                              rotate_left; · simp only [Act.put, pA, pB, pC, pD, pE]; rfl
                              refine pure_ (i := 6) (N := some 100) (v := ?_) (a' := ?_) (bA 20 111) rfl rfl (any_of HT_.out (by kernel_rfl)) (fun _ _ _ h => h) (Or.inl ⟨by rfl, ?_⟩) ?_ ?_
                              rotate_left; · intro w'; go_simp; with_reducible rfl
                              rotate_left; · simp only [Act.put, pA, pB, pC, pD, pE]; rfl
                              refine pure_ (i := 7) (N := some 101) (v := ?_) (a' := ?_) (bA 20 239) rfl rfl (any_of HT_.out (by kernel_rfl)) (fun _ _ _ h => h) (Or.inl ⟨by rfl, ?_⟩) ?_ ?_
                              rotate_left; · intro w'; go_simp; with_reducible rfl
                              rotate_left; · simp only [Act.put, pA, pB, pC, pD, pE]; rfl
                              refine pure_ (i := 8) (N := some 102) (v := ?_) (a' := ?_) (bA 20 495) rfl rfl (any_of HT_.out (by kernel_rfl)) (fun _ _ _ h => h) (Or.inl ⟨by rfl, ?_⟩) ?_ ?_
                              rotate_left; · intro w'; go_simp; with_reducible rfl
                              rotate_left; · simp only [Act.put, pA, pB, pC, pD, pE]; rfl
                              refine pure_ (i := 12) (N := some 106) (v := ?_) (a' := ?_) (bA 20 4591) rfl rfl (any_of HT_.out (by kernel_rfl)) (fun _ _ _ h => h) (Or.inl ⟨by rfl, ?_⟩) ?_ ?_
                              rotate_left; · intro w'; go_simp; with_reducible rfl
                              rotate_left; · simp only [Act.put, pA, pB, pC, pD, pE]; rfl
                              refine pure_ (i := 13) (N := some 107) (v := ?_) (a' := ?_) (bA 20 12783) rfl rfl (any_of HT_.out (by kernel_rfl)) (fun _ _ _ h => h) (Or.inl ⟨by rfl, ?_⟩) ?_ ?_
                              rotate_left; · intro w'; go_simp; with_reducible rfl
                              rotate_left; · simp only [Act.put, pA, pB, pC, pD, pE]; rfl
                              refine pure_ (i := 14) (N := some 108) (v := ?_) (a' := ?_) (bA 20 29167) rfl rfl (any_of HT_.out (by kernel_rfl)) (fun _ _ _ h => h) (Or.inl ⟨by rfl, ?_⟩) ?_ ?_
                              rotate_left; · intro w'; go_simp; with_reducible rfl
                              rotate_left; · simp only [Act.put, pA, pB, pC, pD, pE]; rfl
                              refine take_ (i := 4) (N := some 98) (v := ?_) (a' := ?_) (bA 20 29183) rfl rfl (take_ofW HT_.out HW_.out (by kernel_rfl)) (fun _ _ _ h => h) (Or.inl ⟨by rfl, ?_⟩) hHeld ?_ ?_
                              rotate_left
                              · rintro w' ⟨s0, s1, s2⟩
                                go_simp; with_reducible rfl
                              rotate_left; · simp only [Act.put, pA, pB, pC, pD, pE]; rfl
                              refine take_ (i := 9) (N := some 103) (v := ?_) (a' := ?_) (bA 20 29695) rfl rfl (take_ofW HT_.out HW_.out (by kernel_rfl)) (fun _ _ _ h => h) (Or.inl ⟨by rfl, ?_⟩) hHeld ?_ ?_
                              rotate_left
                              · rintro w' ⟨s0, s1, s2⟩
                                go_simp; with_reducible rfl
                              rotate_left; · simp only [Act.put, pA, pB, pC, pD, pE]; rfl
                              refine pure_ (i := 10) (N := some 104) (v := ?_) (a' := ?_) (bA 20 30719) rfl rfl (any_of HT_.out (by kernel_rfl)) (fun _ _ _ h => h) (Or.inl ⟨by rfl, ?_⟩) ?_ ?_
                              rotate_left; · intro w'; go_simp; with_reducible rfl
                              rotate_left; · simp only [Act.put, pA, pB, pC, pD, pE]; rfl
                              refine take_ (i := 11) (N := some 105) (v := ?_) (a' := ?_) (bA 20 32767) rfl rfl (take_ofW HT_.out HW_.out (by kernel_rfl)) (fun _ _ _ h => h) (Or.inl ⟨by rfl, ?_⟩) hHeld ?_ ?_
                              rotate_left
                              · rintro w' ⟨s0, s1, s2⟩
                                go_simp; with_reducible rfl
                              rotate_left; · simp only [Act.put, pA, pB, pC, pD, pE]; rfl
                              refine take_ (i := 15) (N := some 109) (v := ?_) (a' := ?_) (bA 20 65535) rfl rfl (take_ofW HT_.out HW_.out (by kernel_rfl)) (fun _ _ _ h => h) (Or.inl ⟨by rfl, ?_⟩) hHeld ?_ ?_
                              rotate_left
                              · rintro w' ⟨s0, s1, s2⟩
                                go_simp; with_reducible rfl
                              rotate_left; · simp only [Act.put, pA, pB, pC, pD, pE]; rfl
                              refine one_ (i := 16) (N := some 110) (bA 20 131071) rfl rfl (one_of HT_.out (by kernel_rfl)) (by decide) (fun K hK => ?_)
                              refine value_ (w1 := ?_) (v := ?_) (by rfl) rfl ?_ ?_
                              rotate_left 2
                              · go_simp
                                constructor
                                · rfl
                                · rfl
                              refine hK.out _ _ ⟨(HBA.out.al.drew.cell v (nats_at _ HC0.out)), (HA3.out.ho.hat.al.drew.cell c0 HVL.out), (HBA.out.al.drew.cell y (nats_at _ HCY.out))⟩ (fun hHeld => ?_)
                              clear hK K
                              refine norm_ (a' := ?_) ?_ ?_
                              rotate_left
                              · show Act.put _ (some 110) _ = _
                                simp only [Act.put, pA, pB, pC, pD, pE]; rfl
                              refine one_ (i := 17) (N := some 111) (bA 20 262143) rfl rfl (one_of HT_.out (by kernel_rfl)) (by decide) (fun K hK => ?_)
                              refine step_append_lies _ (by rfl) (.tmp 105) (.tmp 110) 24 (by rfl) (a + 3) 3 i0 (.int .i64 0) 1 8 Try.underlying24 hi0 hz0 hz1 hz2 rfl (by omega) _ r.length (nats r) (by rfl) ((HRW.out.alloc _).drew) ⟨W3.heap.size, 0, none⟩ 1 1 [.int .i64 (cy : Int)] (by rfl) rfl (cell_one_new _ _ _) (by simp [Value.oneCell']) (by omega) (by unfold maxLen; omega) (by omega) (by have := HA3.out.hs; simp; omega) _ rfl ?_
                              intro g cap w1 hown hgrow hat hlt
                              have hb1 := HBA.out.al.drew.grown hgrow HNB.out
                              have hr1 := HA3.out.ho.hat.al.drew.grown hgrow (own_off HRW.out HA3.out.ho.hat (by decide))
                              have fr1 := hr1.free c0
                              have cr1 := hr1.cell c0 HVL.out
                              have HB1 := Lib.hid hb1; have HR1 := Lib.hid hr1; have HGR3 := Lib.hid hgrow; have HOW := Lib.hid hown; have HAT := Lib.hid hat; clear hb1 hr1 hgrow hown hat
                              refine hK.out _ _ ⟨(HB1.out.cell v (nats_at _ HC0.out)), cr1, (HB1.out.cell y (nats_at _ HCY.out))⟩ (fun hHeld => ?_)
                              clear hK K
                              refine norm_ (a' := ?_) ?_ ?_
                              rotate_left
                              · show Act.put _ (some 111) _ = _
                                simp only [Act.put, pA, pB, pC, pD, pE]; rfl
                              refine pure_ (i := 18) (N := some 112) (v := ?_) (a' := ?_) (bA 20 524287) rfl rfl (any_of HT_.out (by kernel_rfl)) (fun _ _ _ h => h) (Or.inl ⟨by rfl, ?_⟩) ?_ ?_
                              rotate_left; · intro w'; go_simp; with_reducible rfl
                              rotate_left; · simp only [Act.put, pA, pB, pC, pD, pE]; rfl
                              refine last_ (i := 19) (N := none) (bA 20 1048575) rfl rfl (one_of HT_.out (by kernel_rfl)) (by decide) (fun K hK => ?_)
                              refine skip_ (w1 := ?_) (by rfl) rfl ?_ ?_
                              rotate_left; · go_simp; rfl
                              refine hK.out _ _ ?_; clear hK K
                              refine done_ (done_of HT_.out (by kernel_rfl)) ?_
                              clear hHeld HT_ HW_; clear cbv cby dro fr1 cr1
                              refine gen_q (fun W => ∃ vals3, OA w2 a bh bi bo next vals3 (head1.set c0 x) (into3.set cy (q + 1)) (outs3.set c0 (r ++ [cy])) W) ?_ ?_
                              · have hA := HA3.out
                                have hrA : Rws ((W3.alloc (.cells #[.int .i64 (cy : Int)] 3)).drew) (a + 3) bo next vals2 outs3 := hA.ho.below (((Below.refl _ _).alloc (Nat.le_refl _) _).drew)
                                have ho1 := HOW.out
                                rw [nats_snoc] at ho1
                                have hps := hrA.push (x := cy) HVL.out HR3.out HL.out.o1 HGR3.out ho1 HAT.out
                                have hbw : Below a w2 ((W3.alloc (.cells #[.int .i64 (cy : Int)] 3)).drew) := (hA.hb.alloc (by have := hA.hs; omega) _).drew
                                have hrl := HRW.out
                                refine ⟨_, ⟨(hA.hh.al.drew.grown HGR3.out (own_under hrl HL.out.h1)).off HL.out.n2, (hA.hi.al.drew.grown HGR3.out (own_under hrl HL.out.i1)).off HL.out.n3, hps, (hbw.grown HGR3.out (by have := hA.hs; simp; omega) (fun k hk => by have := (hrl.lt k hk).1; omega)).setCell HL.out.o0 _, hA.lh, hA.li, ?_⟩⟩
                                have := HGR3.out.size
                                have := hA.hs
                                simp at *
                                omega
                              clear HA3 HBA HVL HRW HNB HB1 HR1 HGR3 HOW HAT hlt
                              rintro W4 ⟨vals3, hA⟩
                              have HA2 := Lib.hid hA
                              clear hA
                              go_wp2_with fail
                              go_roundg k1
                              case measure => have := HK1.out; omega
                              case rel => exact ⟨j + 1, by go_num, Lib.hid ⟨by have := HJK.out; have := HK1.out; omega, _, _, _, HRO.out, HA2.out⟩⟩
                            · rw [if_neg hck] at hro; cases hro
                      · have hjn : row.drop j = [] := List.drop_eq_nil_of_le (by omega)
                        rw [hjn, rowO] at hro
                        obtain ⟨rfl, rfl⟩ := Prod.mk.inj (Option.some.inj hro)
                        have j0 : (row.length : Int) ≤ (j : Int) := by omega
                        have HA2 := Lib.hid hA
                        clear hro hA hjn hj hjk
                        go_wp2_with fail
                        go_roundg v
                        case measure => omega
                        case rel => exact ⟨_, rfl, rfl, Lib.hid ⟨_, _, _, _, HV.out, HA2.out⟩⟩
                  · rw [if_neg hch] at hv; cases hv
                · cases hv
  · rw [if_neg hc] at hM hR
    subst hM
    obtain ⟨rfl, rfl⟩ := Prod.mk.inj (Option.some.inj hR)
    have HB := Lib.hid hb
    clear hb hR HR hc
    go_wp2_with fail
    go_ret2
    exact ⟨HB.out, fun _ => rfl, fun h => absurd h (by decide)⟩

end Go.Proofs.Ytdohfjidnbhfnaa.Scc
