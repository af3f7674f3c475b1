/- brambleref15: Parts. -/
import Derived.Test.YtgihncjllelonaaHa5
import Derived.Test.YtgihncjllelonaaHa31
import Derived.Test.YtgihncjllelonaaHa24
import Derived.Deep.DeepCutAuto
namespace Go.Proofs.Ytgihncjllelonaa.Ce
open Go Go.RowKit Go.MapKept Go.Proofs.Ytgihncjllelonaa.Mem Go.Proofs.Ytgihncjllelonaa.Sl Go.Proofs.Ytgihncjllelonaa.Lw Go.Proofs.Ytgihncjllelonaa.Tb Go.Proofs.Ytgihncjllelonaa.Scc Go.Proofs.Ytgihncjllelonaa.Tj Go.Proofs.YtgihncjllelonaaW.PrintWords Go.Proofs.YtgihncjllelonaaW.PrintLast
attribute [local go_sem ↓] Go.wp_at_zero Go.wp_at_succ
set_option linter.unusedSimpArgs false
set_option linter.unusedVariables false

set_option maxHeartbeats 4000000 in
set_option maxRecDepth 100000 in
theorem sameIntsB_calls (w : World) (A B : Option Addr) (ca cb : Nat) (a b : List Int) (ha : RdI w A a) (hb : RdI w B b) (hn : b.length ≤ 1000000) :
    Calls Try.prog 30 #[.slice A a.length ca, .slice B b.length cb] w fun e w' => e = .returned (.bool (decide (a = b))) ∧ ∃ q, w' = w.drewN q := by
  by_cases hl : a.length = b.length
  · exact sameInts_calls w A B ca cb a b ha hb (by omega)
  · have e1 : ((a.length : Int) == (b.length : Int)) = false := beq_eq_false_iff_ne.2 (by omega)
    have e2 : ((a.length : Int) != (b.length : Int)) = true := by rw [bne, e1]; rfl
    have HNE := Lib.hid (show decide (a = b) = false from by
      rw [decide_eq_false_iff_not]
      intro he
      exact hl (by rw [he]))
    clear ha hb hl
    go_enter Try.func30, Try.ntmps30
    go_wp2
    go_ret
    exact ⟨by rw [HNE.out]; rfl, 0, rfl⟩
def tb11_13.T13 : Bool × List (List Nat × List Nat) := (true, [([], []), ([], []), ([0, 1], [0, 1]), ([2], [2]), ([3], [3]), ([], []), ([], []), ([5, 6], [5, 6]), ([7], [7]), ([4, 8, 4], [4, 8])])
def tb11_13.B13 : List Nat := [0, 0, 3, 7, 15, 0, 0, 96, 224, 511]
theorem tb11_13.tab13 : rtab .any (opsOf Try.f11 13) = tb11_13.T13 := by kernel_rfl
theorem tb11_13.bits13 : waitsOk tb11_13.T13.2 tb11_13.B13 = true := by kernel_rfl
def RefPartsPost (w : World) (code : Nat) (gs comps : List (List Int)) (e : Ending) (w' : World) : Prop := ∃ b : Bool, e = .returned (.bool b) ∧ (b = true ↔ (code = 0 ∧ gs.length = comps.length ∧ ∀ g ∈ gs, (comps.map sorted).count g = 1)) ∧ Below w.heap.size w w'
theorem RefPartsPost.of {w w' : World} {code : Nat} {gs comps : List (List Int)} {e : Ending} (b : Bool) (he : e = .returned (.bool b)) (h : b = true ↔ (code = 0 ∧ gs.length = comps.length ∧ ∀ g ∈ gs, (comps.map sorted).count g = 1)) (hb : Below w.heap.size w w') : RefPartsPost w code gs comps e w' := ⟨b, he, h, hb⟩
theorem count_snoc {gs : List (List Int)} {comps : List (List Int)} {j : Nat} {r g : List Int} (hx : comps[j]? = some r) : ((comps.take (j + 1)).map sorted).count g = ((comps.take j).map sorted).count g + if sorted r = g then 1 else 0 := by
  rw [List.take_add_one, hx, List.map_append, List.count_append]
  simp [List.count_cons]
set_option maxHeartbeats 8000000 in
set_option maxRecDepth 100000 in
theorem refparts_calls (w : World) (Av Aa Ac : Option Addr) (cv ca cc : Nat) (L : List Int) (R : List (Int × Int)) (comps : List (List Int)) (hv : RdI w Av L) (ha : RdA w Aa R) (hc : RdLO w Ac comps) (hvl : L.length ≤ 400) (hal : R.length ≤ 400) (code : Nat) (gs : List (List Int)) (hcode : codeV (sorted L) R = code) (hp : code = 0 → ∃ comp m, CompOf (sorted L).length (PE (sorted L) R) comp m ∧ gs = ofL comp (sorted L) m) (hgl : gs.length ≤ 400 ∧ ∀ g ∈ gs, g.length ≤ 400) :
    Calls Try.prog 11 #[.slice Av L.length cv, .slice Aa R.length ca, .slice Ac comps.length cc] w fun e w' => RefPartsPost w code gs comps e w' := by
  have her := error_calls w Av Aa cv ca L R hv ha (by omega) (by omega)
  rw [hcode] at her
  obtain ⟨nc, hnc⟩ : ∃ m, comps.length = m := ⟨_, rfl⟩
  obtain ⟨m, hm⟩ : ∃ m, gs.length = m := ⟨_, rfl⟩
  have HER := Lib.hid her
  have HI := Lib.hid (And.intro hc (And.intro hnc (And.intro hm (And.intro hgl.2 (And.intro hv ha)))))
  have HP := Lib.hid (And.intro hcode hp)
  have hm4 : m ≤ 400 := by have := hgl.1; omega
  rw [hnc]
  clear hv ha hc hcode hp hgl hnc her
  go_enter Try.func11, Try.ntmps11
  go_wp2_with fail
  refine HER.out.mono ?_
  clear HER
  rintro e1 w1 ⟨rfl, hb1⟩
  have HB1 := Lib.hid hb1
  clear hb1
  by_cases hz : code = 0
  · subst hz
    obtain ⟨hcz, hp⟩ := HP.out
    obtain ⟨hd, hg⟩ := codeV_zero hcz
    obtain ⟨comp, m', hco, hgs⟩ := hp rfl
    have hs := lt_of_nodup (sorted_rising L) hd
    have hsl := sorted_length L
    obtain rfl : m' = m := by rw [← hm, hgs]; simp [ofL]
    have HG := Lib.hid (graph_calls w1 Av Aa cv ca L R (HI.out.2.2.2.2.1.below HB1.out) (HI.out.2.2.2.2.2.below HB1.out) (by omega) (by omega))
    have hOF := fun (W : World) (A AE : Option Addr) (cg ce : Nat) (x : RdI W A (sorted L)) (y : RdE W AE R) => ofR_calls (gw := 0) W A AE cg ce m' (sorted L) R comp x y hs hg hco (by omega) (by omega)
    rw [← hgs] at hOF
    unfold gV at hOF
    rw [hsl] at hOF
    have HOF := Lib.hid hOF
    clear hcz hp hd hg hco hgs hs hsl hOF hm
    go_wp2_with fail
    refine HG.out.mono ?_
    clear HG
    rintro e w2 ⟨A5, cg5, AE, ce5, rfl, hri, hre, hb2⟩
    unfold gV
    have HR2 := Lib.hid (And.intro hri (And.intro hre hb2))
    clear hri hre hb2
    go_wp2_with fail
    refine (HOF.out w2 A5 AE cg5 ce5 HR2.out.1 HR2.out.2.1).mono ?_
    clear HOF
    rintro e w3 ⟨A7, c7, rfl, hrl, hb3⟩
    have hb13 := HR2.out.2.2.trans (hb3.mono HR2.out.2.2.size)
    have HC := Lib.hid (And.intro hrl (And.intro (HB1.out.trans (hb13.mono HB1.out.size)) (HI.out.1.below (HB1.out.trans (hb13.mono HB1.out.size)))))
    clear hrl hb3 hb13 HR2 HB1 HP
    by_cases hdn : m' = nc
    · subst hdn
      have hd1 : ((m' : Int) != (m' : Int)) = false := by simp
      go_wp2_with fail
      clear hd1
      go_loopg [8, 9, 10] m' (fun kq v8 v9 v10 w' => ∃ i : Nat, v8 = .int .i64 (i : Int) ∧ Hid (i + kq = m' ∧ Below w3.heap.size w3 w' ∧ ∀ g ∈ gs.take i, (comps.map sorted).count g = 1))
      case atStart => exact ⟨0, rfl, Lib.hid ⟨by omega, Below.refl _ _, fun g hg => by simp at hg⟩⟩
      case round =>
        obtain ⟨i, rfl, hJ⟩ := hrel
        obtain ⟨hik, hb, hall⟩ := hJ.out
        clear hJ
        by_cases hi : i < m'
        · obtain ⟨k1, rfl⟩ : ∃ k1, gk = k1 + 1 := ⟨gk - 1, by omega⟩
          obtain ⟨g, hx⟩ : ∃ x, gs[i]? = some x := ⟨_, List.getElem?_eq_getElem (by have := HI.out.2.2.1; omega)⟩
          have HS := Lib.hid (And.intro hik (And.intro hb (And.intro hall hx)))
          have i0 : (0 : Int) ≤ (i : Int) := by omega
          have i1 : (i : Int) < (m' : Int) := by omega
          have i2 : (m' : Int) ≤ 400 := by omega
          clear hik hb hall hx hi
          go_wp2_with fail
          go_loopg [9, 10] m' (fun kq v9 v10 w' => ∃ j c : Nat, v9 = .int .i64 (c : Int) ∧ v10 = .int .i64 (j : Int) ∧ Hid (j + kq = m' ∧ c ≤ j ∧ c = ((comps.take j).map sorted).count g ∧ Below w3.heap.size w3 w'))
          case atStart => exact ⟨0, 0, rfl, rfl, Lib.hid ⟨by omega, by omega, by simp, HS.out.2.1⟩⟩
          case round =>
            obtain ⟨j, c, rfl, rfl, hJ⟩ := hrel
            obtain ⟨hjk, hcj, hcc, hb⟩ := hJ.out
            clear hJ
            by_cases hj : j < m'
            · obtain ⟨k2, rfl⟩ : ∃ k2, gk = k2 + 1 := ⟨gk - 1, by omega⟩
              obtain ⟨r, hxr⟩ : ∃ x, comps[j]? = some x := ⟨_, List.getElem?_eq_getElem (by have := HI.out.2.1; omega)⟩
              obtain ⟨wd, hwd⟩ : ∃ wd, wr.drew = wd := ⟨_, rfl⟩
              have hbd : Below w3.heap.size w3 wd := by
                rw [← hwd]
                exact hb.trans ((Below.refl _ _).drew.mono hb.size)
              obtain ⟨bb, bo, B, cr, hA, cx, hro, hrl⟩ := (HC.out.2.2.below hbd) j r hxr
              subst hA
              obtain ⟨bg, G, cg, hA, cy, hrg⟩ := (HC.out.1.below hbd) i g HS.out.2.2.2
              subst hA
              obtain ⟨nr, hnr⟩ : ∃ n, r.length = n := ⟨_, rfl⟩
              obtain ⟨ng, hng⟩ : ∃ n, g.length = n := ⟨_, rfl⟩
              rw [hnr] at cx
              rw [hng] at cy
              have hso := sortedO_calls wd B cr r hro hrl
              have hsi := fun (W : World) (A4 : Option Addr) (c4 : Nat) (x : RdI W A4 (sorted r)) (y : Below wd.heap.size wd W) => sameIntsB_calls W A4 G c4 cg (sorted r) g x (hrg.below y) (by have := HI.out.2.2.2.1 g (List.mem_of_getElem? HS.out.2.2.2); omega)
              rw [hnr] at hso
              rw [sorted_length, hnr, hng] at hsi
              obtain ⟨q, hq⟩ : ∃ q, decide (sorted r = g) = q := ⟨_, rfl⟩
              rw [hq] at hsi
              have HSO := Lib.hid hso
              have HSI := Lib.hid hsi
              have HQ := Lib.hid (And.intro cx cy)
              have HT := Lib.hid (And.intro hjk (And.intro hcj (And.intro hcc (And.intro hbd (And.intro hxr hq)))))
              have j0 : (0 : Int) ≤ (j : Int) := by omega
              have j1 : (j : Int) < (m' : Int) := by omega
              have c1 : (c : Int) ≤ 400 := by omega
              clear hjk hcj hcc hb hxr hbd hro hrl hrg cx cy hnr hng hso hsi hq hj
              go_upto_region 13 with (fail)
              refine start_ (n := 10) (S := fun w' => w'.cell? ⟨bb, bo + j, none⟩ = some (.slice B nr cr) ∧ w'.cell? ⟨bg, i, none⟩ = some (.slice G ng cg)) (ds := [9]) (bA 10 0) (by kernel_rfl) rfl rfl ⟨(by rw [hwd]; exact HQ.out.1), (by rw [hwd]; exact HQ.out.2)⟩ (fun hHeld => ?_)
              rw [hwd] at hHeld ⊢
              refine with_tabW tb11_13.tab13 tb11_13.bits13 (fun HT_ HW_ => ?_)
              refine pw_ 0 36 (bA 10 1) HT_.out ?_
              refine pw_ 1 37 (bA 10 3) HT_.out ?_
              refine pw_ 2 38 (bA 10 7) HT_.out ?_
              refine pw_ 5 41 (bA 10 39) HT_.out ?_
              refine pw_ 6 42 (bA 10 103) HT_.out ?_
              refine pw_ 7 43 (bA 10 231) HT_.out ?_
              refine tw_ 3 39 (bA 10 239) HT_.out HW_.out hHeld (hv := by rintro w' ⟨s0, s1⟩; go_simp; with_reducible rfl) (h := ?_)
              refine tw_ 8 44 (bA 10 495) HT_.out HW_.out hHeld (hv := by rintro w' ⟨s0, s1⟩; go_simp; with_reducible rfl) (h := ?_)
              refine one_ (i := 4) (N := some 40) (bA 10 511) rfl rfl (one_of HT_.out (by kernel_rfl)) (by decide) (fun K hK => ?_)
              refine gw_ Try.func31 #[.slice B nr cr] ?_
              with_reducible refine (HSO.out).mono ?_
              rintro e wa ⟨v4, rfl, ho4⟩
              refine ⟨_, rfl, ?_⟩
              obtain ⟨A4, c4, rfl⟩ := Lw.own_slice ho4.r
              have hba : Below wd.heap.size wd wa := ho4.b
              have HSI2 := Lib.hid (HSI.out wa A4 c4 (RdI.of_own ho4.r).1 hba)
              have HBA := Lib.hid hba
              refine hK.out _ _ ⟨(keep_at hba HQ.out.1), (keep_at hba HQ.out.2)⟩ (fun hHeld => ?_)
              clear hK K
              refine norm_ (a' := ?_) ?_ ?_
              rotate_left
              · show Act.put _ (some 40) _ = _
                simp only [Act.put, pA, pB, pC, pD, pE]; rfl
              refine last_ (i := 9) (N := some 45) (bA 10 1023) rfl rfl (one_of HT_.out (by kernel_rfl)) (by decide) (fun K hK => ?_)
              refine gw_ Try.func30 #[.slice A4 nr c4, .slice G ng cg] ?_
              with_reducible refine (HSI2.out).mono ?_
              rintro e wb ⟨rfl, qb, rfl⟩
              refine ⟨_, rfl, ?_⟩
              refine hK.out _ _ ?_; clear hK K
              refine norm_ (a' := ?_) ?_ ?_
              rotate_left
              · show Act.put _ (some 45) _ = _
                simp only [Act.put, pA, pB, pC, pD, pE]; rfl
              refine done_ (done_of HT_.out (by kernel_rfl)) ?_
              clear hHeld HT_ HW_
              obtain ⟨wb, hwb⟩ : ∃ wb, wa.drewN qb = wb := ⟨_, rfl⟩
              have HBB := Lib.hid (show Below w3.heap.size w3 wb from by
                rw [← hwb]
                exact HT.out.2.2.2.1.trans ((show Below wd.heap.size wd (wa.drewN qb) from ⟨HBA.out.os, HBA.out.tape, HBA.out.output, HBA.out.size, HBA.out.block⟩).mono HT.out.2.2.2.1.size))
              rw [hwb]
              clear hwb HBA HSI2 HSO HSI HQ hwd ho4
              cases q with
              | true =>
                go_wp2
                go_roundg k2
                case measure => omega
                case rel => exact ⟨j + 1, c + 1, by go_num, by go_num, Lib.hid ⟨by have := HT.out.1; omega, by have := HT.out.2.1; omega, by rw [count_snoc (gs := gs) HT.out.2.2.2.2.1, ← HT.out.2.2.1, if_pos (of_decide_eq_true HT.out.2.2.2.2.2)], HBB.out⟩⟩
              | false =>
                go_wp2
                go_roundg k2
                case measure => omega
                case rel => exact ⟨j + 1, c, by go_num, by go_num, Lib.hid ⟨by have := HT.out.1; omega, by have := HT.out.2.1; omega, by rw [count_snoc (gs := gs) HT.out.2.2.2.2.1, ← HT.out.2.2.1, if_neg (of_decide_eq_false HT.out.2.2.2.2.2)]; rfl, HBB.out⟩⟩
            · obtain rfl : j = m' := by omega
              have jn : ¬ ((j : Int) < (j : Int)) := by omega
              rw [List.take_of_length_le (by have := HI.out.2.1; omega)] at hcc
              by_cases hc1 : c = 1
              · have hq1 : ((c : Int) != 1) = false := by rw [hc1]; rfl
                have HN := Lib.hid (show i + 1 + k1 = j ∧ Below w3.heap.size w3 wr ∧ ∀ g ∈ gs.take (i + 1), (comps.map sorted).count g = 1 from ⟨by have := HS.out.1; omega, hb, fun x hx => by
                  rw [List.take_add_one, HS.out.2.2.2] at hx
                  rcases List.mem_append.1 hx with hx | hx
                  · exact HS.out.2.2.1 x hx
                  · obtain rfl : x = g := by simpa using hx
                    rw [← hcc, hc1]⟩)
                clear hcc hb hjk hc1 hj
                go_wp2_with fail
                go_roundg k1
                case measure => omega
                case rel => exact ⟨i + 1, by go_num, HN⟩
              · have hq1 : ((c : Int) != 1) = true := by simpa using (show ¬ ((c : Int) = 1) by omega)
                have HN := Lib.hid (And.intro (show ¬ ∀ g ∈ gs, (comps.map sorted).count g = 1 from fun h => hc1 (by rw [hcc]; exact h g (List.mem_of_getElem? HS.out.2.2.2))) hb)
                clear hcc hb hjk hc1 hj
                go_wp2_with fail
                go_ret
                exact RefPartsPost.of false rfl ⟨fun h => (by cases h), fun h => absurd h.2.2 HN.out.1⟩ (HC.out.2.1.trans (HN.out.2.mono HC.out.2.1.size))
        · obtain rfl : i = m' := by omega
          have jn : ¬ ((i : Int) < (i : Int)) := by omega
          rw [List.take_of_length_le (by have := HI.out.2.2.1; omega)] at hall
          have HN := Lib.hid (And.intro hall hb)
          clear hall hb hik hi
          go_wp2_with fail
          go_ret
          exact RefPartsPost.of true rfl ⟨fun _ => ⟨rfl, HI.out.2.2.1.trans HI.out.2.1.symm, HN.out.1⟩, fun _ => rfl⟩ (HC.out.2.1.trans (HN.out.2.mono HC.out.2.1.size))
    · have hd1 : ((m' : Int) != (nc : Int)) = true := by simpa using (show ¬ ((m' : Int) = (nc : Int)) by omega)
      have HZ := Lib.hid (show ¬ (gs.length = comps.length) from fun h => hdn (HI.out.2.2.1.symm.trans (h.trans HI.out.2.1)))
      clear hdn
      go_wp2
      go_ret
      exact RefPartsPost.of false rfl ⟨fun h => (by cases h), fun h => absurd h.2.1 HZ.out⟩ (HC.out.2.1)
  · have hz1 : ((code : Int) != 0) = true := by simpa using (show ¬ ((code : Int) = 0) by omega)
    have HZ := Lib.hid hz
    clear hz
    go_wp2
    go_ret
    exact RefPartsPost.of false rfl ⟨fun h => (by cases h), fun h => absurd h.1 HZ.out⟩ (HB1.out)
end Go.Proofs.Ytgihncjllelonaa.Ce

/- cert: quiet. -/
namespace Go.Proofs.Ytgihncjllelonaa.Ce
open Go Go.RowKit Go.MapKept Go.Proofs.Ytgihncjllelonaa.Mem Go.Proofs.Ytgihncjllelonaa.Sl Go.Proofs.Ytgihncjllelonaa.Lw Go.Proofs.Ytgihncjllelonaa.Wt Go.Proofs.Ytgihncjllelonaa.Tb Go.Proofs.YtgihncjllelonaaW.PrintWords Go.Proofs.YtgihncjllelonaaW.PrintLast
attribute [local go_sem ↓] Go.wp_at_zero Go.wp_at_succ
set_option linter.unusedSimpArgs false
set_option linter.unusedVariables false

def quietB (ds : List Ds) (x : Ed) : Bool := (dD ds x.2.1).2.1 || (!(dD ds x.2.2.1).2.1 && decide ((dD ds x.2.2.1).2.2.1 ≤ add32 (dD ds x.2.1).2.2.1 x.2.2.2))
def tb40_2.T2 : Bool × List (List Nat × List Nat) := (true, [([], []), ([0], [0]), ([1], [1]), ([2], [2]), ([3, 2], [2, 3]), ([4, 2], [2, 4]), ([5, 2, 2], [2, 5]), ([6], [6]), ([7, 6], [6, 7]), ([6], [6]), ([9, 6], [6, 9]), ([6], [6]), ([11, 6], [6, 11]), ([10, 12, 6, 6], [6, 10, 12]), ([8, 13, 6], [6, 8, 13]), ([6, 14, 2], [2, 6, 14]), ([2, 15], [2, 15]), ([16, 13, 0, 1, 2, 3, 4, 5, 6, 7, 8, 9, 10, 11, 12, 13, 14, 15, 16], [16])])
def tb40_2.B2 : List Nat := [0, 1, 3, 7, 15, 31, 63, 127, 255, 127, 639, 127, 2175, 7807, 16383, 32767, 65535, 131071]
theorem tb40_2.tab2 : rtab .any (opsOf Try.f40 2) = tb40_2.T2 := by kernel_rfl
theorem tb40_2.bits2 : waitsOk tb40_2.T2.2 tb40_2.B2 = true := by kernel_rfl
set_option maxHeartbeats 8000000 in
set_option maxRecDepth 100000 in
theorem quiet_calls (w : World) (s : Int) (md me : Nat) (ds : List Ds) (es : List Ed) (h : Cm w md me ds es) (e u v : Int) (b : Nat) (hb : b < 4294967296) : Calls Try.prog 40 #[.agg #[.int .i64 s, .map (some md), .map (some me)], .agg #[.int .i64 e, .int .i64 u, .int .i64 v, .int .u32 (b : Int)]] w fun en w' => en = .returned (.bool (quietB ds (e, u, v, b))) ∧ Below w.heap.size w w' := by
  have hb2 : Below w.heap.size w ((w.alloc (.cells #[.int .i64 s, .map (some md), .map (some me)] 87)).alloc (.cells #[.int .i64 e, .int .i64 u, .int .i64 v, .int .u32 (b : Int)] 55)) := ((Below.refl _ _).alloc (Nat.le_refl _) _).alloc (by simp) _
  have hz : ∀ {W : World} (c : Array Value), Below w.heap.size w W → Below w.heap.size w (W.alloc (.cells c 43)) := fun c hW => hW.alloc hW.size _
  have lu := fun (W : World) (hW : Below w.heap.size w W) => (h.below hW).dlook u
  have lv := fun (W : World) (hW : Below w.heap.size w W) => (h.below hW).dlook v
  obtain ⟨⟨ua, uf, ub, ue⟩, hu⟩ : ∃ x, dD ds u = x := ⟨_, rfl⟩
  obtain ⟨⟨va, vf, vb, ve⟩, hv⟩ : ∃ x, dD ds v = x := ⟨_, rfl⟩
  simp only [hu] at lu
  simp only [hv] at lv
  have hub := dD_bits h.db u
  rw [hu] at hub
  have hspec : quietB ds (e, u, v, b) = (uf || (!vf && decide (vb ≤ add32 ub b))) := by
    unfold quietB
    dsimp only
    rw [hu, hv]
  rw [hspec]
  have HSU := Lib.hid (fun W : World => sum_calls ub b W hub hb)
  have l1 := lu _ hb2.drew
  have l2 := fun c => lu _ (hz c hb2).drew
  have l3 := fun c c' => lu _ (hz c' (hz c hb2)).drew
  have l4 := lv _ hb2.drew
  have l5 := fun c => lv _ (hz c hb2).drew
  have l6 := fun c c' => lv _ (hz c' (hz c hb2)).drew
  clear hspec hu hv lu lv hb2 hz h hub
  go_enter Try.func40, Try.ntmps40
  go_upto_region 1 with (fail)
  go_cut [5, 6] (fun v5 v6 wc => ∃ b1 b2 : Nat, v5 = .pointer (some ⟨b1, 0, none⟩) ∧ v6 = .pointer (some ⟨b2, 0, none⟩) ∧ Hid (At wc b1 [.int .i64 ua, .bool uf, .int .u32 (ub : Int), .int .i64 ue] 43 ∧ At wc b2 [.int .i64 va, .bool vf, .int .u32 (vb : Int), .int .i64 ve] 43 ∧ At wc (w.heap.size + 1) [.int .i64 e, .int .i64 u, .int .i64 v, .int .u32 (b : Int)] 55 ∧ Below w.heap.size w wc))
  case first =>
    go_region
    all_goals go_wp2_with fail
    all_goals go_meet
    all_goals exact ⟨_, _, rfl, rfl, Lib.hid ⟨by repeat (first | (refine At.made ?_ rfl; simp; done) | refine At.drew ?_ | refine At.al ?_), by repeat (first | (refine At.made ?_ rfl; simp; done) | refine At.drew ?_ | refine At.al ?_), by repeat (first | (refine At.made ?_ rfl; simp; done) | refine At.drew ?_ | refine At.al ?_), by repeat (first | exact Below.refl _ _ | refine Below.drew ?_ | refine Below.alloc ?_ (by first | (simp; done) | (simp; omega)) _)⟩⟩
  case rest =>
    obtain ⟨b1, b2, rfl, rfl, hc⟩ := hcut
    rename World => wy
    clear l1 l2 l3 l4 l5 l6
    obtain ⟨g3, hg3⟩ : ∃ g, w.heap.size + 1 = g := ⟨_, rfl⟩
    rw [hg3] at hc
    rw [hg3]
    have hX := hc.out
    go_upto_region 2 with (fail)
    obtain ⟨wd, hwd⟩ : ∃ wd, wy.drew = wd := ⟨_, rfl⟩
    have HX := Lib.hid (show At wd b1 [.int .i64 ua, .bool uf, .int .u32 (ub : Int), .int .i64 ue] 43 ∧ At wd b2 [.int .i64 va, .bool vf, .int .u32 (vb : Int), .int .i64 ve] 43 ∧ At wd g3 [.int .i64 e, .int .i64 u, .int .i64 v, .int .u32 (b : Int)] 55 ∧ Below w.heap.size w wd from hwd ▸ ⟨hX.1.drew, hX.2.1.drew, hX.2.2.1.drew, hX.2.2.2.drew⟩)
    clear hX hc hg3
    cases uf with
    | true =>
      refine start_ (n := 18) (S := fun w' => w'.cell? ⟨b1, 1, none⟩ = some (.bool true)) (ds := []) (bA 18 0) (by kernel_rfl) rfl rfl ((by rw [hwd]; exact HX.out.1.cell 1 rfl)) (fun hHeld => ?_)
      rw [hwd] at hHeld ⊢
      refine with_tabW tb40_2.tab2 tb40_2.bits2 (fun HT_ HW_ => ?_)
      refine pw_ 0 17 (bA 18 1) HT_.out ?_
      refine tw_ 1 18 (bA 18 3) HT_.out HW_.out hHeld (hv := by intro w' s0; go_simp; with_reducible rfl) (h := ?_)
      refine pw_ 2 19 (bA 18 7) HT_.out ?_
      refine pu_ 3 20 (bA 18 15) HT_.out ?_
      refine pu_ 4 21 (bA 18 31) HT_.out ?_
      refine pu_ 5 22 (bA 18 63) HT_.out ?_
      refine pu_ 6 23 (bA 18 127) HT_.out ?_
      refine pu_ 7 24 (bA 18 255) HT_.out ?_
      refine pu_ 8 25 (bA 18 511) HT_.out ?_
      refine pu_ 9 26 (bA 18 1023) HT_.out ?_
      refine pu_ 10 27 (bA 18 2047) HT_.out ?_
      refine pu_ 11 28 (bA 18 4095) HT_.out ?_
      refine pu_ 12 29 (bA 18 8191) HT_.out ?_
      refine pu_ 13 30 (bA 18 16383) HT_.out ?_
      refine pu_ 14 31 (bA 18 32767) HT_.out ?_
      refine pu_ 15 32 (bA 18 65535) HT_.out ?_
      refine pw_ 16 33 (bA 18 131071) HT_.out ?_
      refine pw_ 17 4 (bA 18 262143) HT_.out ?_
      refine done_ (done_of HT_.out (by kernel_rfl)) ?_
      clear hHeld HT_ HW_
      go_wp2
      go_ret
      exact ⟨rfl, HX.out.2.2.2⟩
    | false =>
      cases vf with
      | true =>
        refine start_ (n := 18) (S := fun w' => w'.cell? ⟨b1, 1, none⟩ = some (.bool false) ∧ w'.cell? ⟨b2, 1, none⟩ = some (.bool true)) (ds := []) (bA 18 0) (by kernel_rfl) rfl rfl ⟨(by rw [hwd]; exact HX.out.1.cell 1 rfl), (by rw [hwd]; exact HX.out.2.1.cell 1 rfl)⟩ (fun hHeld => ?_)
        rw [hwd] at hHeld ⊢
        refine with_tabW tb40_2.tab2 tb40_2.bits2 (fun HT_ HW_ => ?_)
        refine pw_ 0 17 (bA 18 1) HT_.out ?_
        refine tw_ 1 18 (bA 18 3) HT_.out HW_.out hHeld (hv := by rintro w' ⟨s0, s1⟩; go_simp; with_reducible rfl) (h := ?_)
        refine pw_ 2 19 (bA 18 7) HT_.out ?_
        refine pw_ 3 20 (bA 18 15) HT_.out ?_
        refine tw_ 4 21 (bA 18 31) HT_.out HW_.out hHeld (hv := by rintro w' ⟨s0, s1⟩; go_simp; with_reducible rfl) (h := ?_)
        refine pw_ 5 22 (bA 18 63) HT_.out ?_
        refine pw_ 6 23 (bA 18 127) HT_.out ?_
        refine pu_ 7 24 (bA 18 255) HT_.out ?_
        refine pu_ 8 25 (bA 18 511) HT_.out ?_
        refine pu_ 9 26 (bA 18 1023) HT_.out ?_
        refine pu_ 10 27 (bA 18 2047) HT_.out ?_
        refine pu_ 11 28 (bA 18 4095) HT_.out ?_
        refine pu_ 12 29 (bA 18 8191) HT_.out ?_
        refine pu_ 13 30 (bA 18 16383) HT_.out ?_
        refine pu_ 14 31 (bA 18 32767) HT_.out ?_
        refine pw_ 15 32 (bA 18 65535) HT_.out ?_
        refine pw_ 16 33 (bA 18 131071) HT_.out ?_
        refine pw_ 17 4 (bA 18 262143) HT_.out ?_
        refine done_ (done_of HT_.out (by kernel_rfl)) ?_
        clear hHeld HT_ HW_
        go_wp2
        go_ret
        exact ⟨rfl, HX.out.2.2.2⟩
      | false =>
        refine start_ (n := 18) (S := fun w' => w'.cell? ⟨b1, 1, none⟩ = some (.bool false) ∧ w'.cell? ⟨b2, 1, none⟩ = some (.bool false) ∧ w'.cell? ⟨b2, 2, none⟩ = some (.int .u32 (vb : Int)) ∧ w'.cell? ⟨b1, 2, none⟩ = some (.int .u32 (ub : Int)) ∧ w'.cell? ⟨g3, 3, none⟩ = some (.int .u32 (b : Int))) (ds := []) (bA 18 0) (by kernel_rfl) rfl rfl ⟨(by rw [hwd]; exact HX.out.1.cell 1 rfl), (by rw [hwd]; exact HX.out.2.1.cell 1 rfl), (by rw [hwd]; exact HX.out.2.1.cell 2 rfl), (by rw [hwd]; exact HX.out.1.cell 2 rfl), (by rw [hwd]; exact HX.out.2.2.1.cell 3 rfl)⟩ (fun hHeld => ?_)
        rw [hwd] at hHeld ⊢
        refine with_tabW tb40_2.tab2 tb40_2.bits2 (fun HT_ HW_ => ?_)
        refine pw_ 0 17 (bA 18 1) HT_.out ?_
        refine tw_ 1 18 (bA 18 3) HT_.out HW_.out hHeld (hv := by rintro w' ⟨s0, s1, s2, s3, s4⟩; go_simp; with_reducible rfl) (h := ?_)
        refine pw_ 2 19 (bA 18 7) HT_.out ?_
        refine pw_ 3 20 (bA 18 15) HT_.out ?_
        refine tw_ 4 21 (bA 18 31) HT_.out HW_.out hHeld (hv := by rintro w' ⟨s0, s1, s2, s3, s4⟩; go_simp; with_reducible rfl) (h := ?_)
        refine pw_ 5 22 (bA 18 63) HT_.out ?_
        refine pw_ 6 23 (bA 18 127) HT_.out ?_
        refine pw_ 7 24 (bA 18 255) HT_.out ?_
        refine pw_ 9 26 (bA 18 767) HT_.out ?_
        refine pw_ 11 28 (bA 18 2815) HT_.out ?_
        refine tw_ 8 25 (bA 18 3071) HT_.out HW_.out hHeld (hv := by rintro w' ⟨s0, s1, s2, s3, s4⟩; go_simp; with_reducible rfl) (h := ?_)
        refine tw_ 10 27 (bA 18 4095) HT_.out HW_.out hHeld (hv := by rintro w' ⟨s0, s1, s2, s3, s4⟩; go_simp; with_reducible rfl) (h := ?_)
        refine tw_ 12 29 (bA 18 8191) HT_.out HW_.out hHeld (hv := by rintro w' ⟨s0, s1, s2, s3, s4⟩; go_simp; with_reducible rfl) (h := ?_)
        refine one_ (i := 13) (N := some 30) (bA 18 16383) rfl rfl (one_of HT_.out (by kernel_rfl)) (by decide) (fun K hK => ?_)
        refine gw_ Try.func61 #[.int .u32 (ub : Int), .int .u32 (b : Int)] ?_
        with_reducible refine ((HSU.out wd)).mono ?_
        rintro e1 w1 ⟨rfl, rfl⟩
        refine ⟨_, rfl, ?_⟩
        refine hK.out _ _ ⟨(HX.out.1.cell 1 rfl), (HX.out.2.1.cell 1 rfl), (HX.out.2.1.cell 2 rfl), (HX.out.1.cell 2 rfl), (HX.out.2.2.1.cell 3 rfl)⟩ (fun hHeld => ?_)
        clear hK K
        refine norm_ (a' := ?_) ?_ ?_
        rotate_left
        · show Act.put _ (some 30) _ = _
          simp only [Act.put, pA, pB, pC, pD, pE]; rfl
        refine pw_ 14 31 (bA 18 32767) HT_.out ?_
        refine pw_ 15 32 (bA 18 65535) HT_.out ?_
        refine pw_ 16 33 (bA 18 131071) HT_.out ?_
        refine pw_ 17 4 (bA 18 262143) HT_.out ?_
        refine done_ (done_of HT_.out (by kernel_rfl)) ?_
        clear hHeld HT_ HW_
        go_wp2
        go_ret
        refine ⟨?_, HX.out.2.2.2⟩
        by_cases hq2 : vb ≤ add32 ub b
        · simp [hq2]
        · simp [hq2]
          try omega
end Go.Proofs.Ytgihncjllelonaa.Ce
