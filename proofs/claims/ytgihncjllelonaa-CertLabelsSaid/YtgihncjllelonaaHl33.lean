/- brambleref15: Labels. -/
import Derived.Test.YtgihncjllelonaaHl5
import Derived.Test.YtgihncjllelonaaHl32
import Derived.Test.YtgihncjllelonaaHl30
import Derived.Test.YtgihncjllelonaaHl24
import Derived.Deep.DeepCutAuto
namespace Go.Proofs.Ytgihncjllelonaa.Ce
open Go Go.RowKit Go.MapKept Go.Proofs.Ytgihncjllelonaa.Mem Go.Proofs.Ytgihncjllelonaa.Sl Go.Proofs.Ytgihncjllelonaa.Lw Go.Proofs.Ytgihncjllelonaa.Om Go.Proofs.Ytgihncjllelonaa.Tb Go.Proofs.Ytgihncjllelonaa.Scc Go.Proofs.Ytgihncjllelonaa.Tj Go.Proofs.YtgihncjllelonaaW.PrintWords Go.Proofs.YtgihncjllelonaaW.PrintLast
attribute [local go_sem ↓] Go.wp_at_zero Go.wp_at_succ
set_option linter.unusedSimpArgs false
set_option linter.unusedVariables false

def RefLabPost (w : World) (code : Nat) (vs : List Int) (R : List (Int × Int)) (ls : List Lb) (e : Ending) (w' : World) : Prop := ∃ b : Bool, e = .returned (.bool b) ∧ (b = true ↔ (code = 0 ∧ ls.length = vs.length ∧ RefLab (sorted vs) (PE (sorted vs) R) ls)) ∧ Below w.heap.size w w'
theorem RefLabPost.of {w w' : World} {code : Nat} {vs : List Int} {R : List (Int × Int)} {ls : List Lb} {e : Ending} (b : Bool) (he : e = .returned (.bool b)) (h : b = true ↔ (code = 0 ∧ ls.length = vs.length ∧ RefLab (sorted vs) (PE (sorted vs) R) ls)) (hb : Below w.heap.size w w') : RefLabPost w code vs R ls e w' := ⟨b, he, h, hb⟩
theorem getD_at {sl : List Int} {i : Nat} {u : Int} (h : sl[i]? = some u) : sl.getD i 0 = u := by rw [List.getD_eq_getElem?_getD, h]; rfl
theorem labV_get {ls : List Lb} {u : Int} {a : Nat} {x : Lb} (h : labI ls u = (a : Int)) (hx : ls[a]? = some x) : labV ls u = x := by
  unfold labV
  rw [h]
  simp [hx]
theorem labG_lt {v : Int} : ∀ (ls : List Lb) (j : Nat) (a : Int), a < (j : Int) → labG v ls j a < ((j + ls.length : Nat) : Int)
  | [], j, a, h => by rw [labG]; simpa using h
  | l :: r, j, a, h => by
    have e : j + 1 + r.length = j + (l :: r).length := by rw [List.length_cons]; omega
    rw [labG]
    split
    · split
      · omega
      · have := labG_lt (v := v) r (j + 1) (j : Int) (by omega)
        rwa [e] at this
    · have := labG_lt (v := v) r (j + 1) a (by omega)
      rwa [e] at this
theorem labI_nat {ls : List Lb} {v : Int} (h : 0 ≤ labI ls v) : ∃ a x, labI ls v = ((a : Nat) : Int) ∧ a < ls.length ∧ ls[a]? = some x := by
  have hlt := labG_lt (v := v) ls 0 (-1) (by omega)
  rw [Nat.zero_add] at hlt
  have hlt : labI ls v < (ls.length : Int) := hlt
  obtain ⟨a, ha⟩ : ∃ a : Nat, labI ls v = (a : Int) := ⟨(labI ls v).toNat, by omega⟩
  have hal : a < ls.length := by omega
  exact ⟨a, _, ha, hal, List.getElem?_eq_getElem hal⟩
def tb13_16.T16 : Bool × List (List Nat × List Nat) := (true, [([], []), ([], []), ([], []), ([2], [2]), ([], []), ([3, 4], [3, 4]), ([5], [5]), ([1, 6], [1, 6]), ([0, 7], [0, 7]), ([8], [8]), ([9], [9]), ([], []), ([], []), ([], []), ([13], [13]), ([], []), ([14, 15], [14, 15]), ([16], [16]), ([12, 17, 7], [12, 17]), ([11, 18], [11, 18]), ([19], [19]), ([20], [20]), ([10, 21, 18], [10, 21]), ([], []), ([], []), ([23, 24], [23, 24]), ([25], [25]), ([], []), ([26, 27], [26, 27]), ([28], [28]), ([22, 29], [22, 29])])
def tb13_16.B16 : List Nat := [0, 0, 0, 4, 0, 28, 60, 126, 255, 511, 1023, 0, 0, 0, 8192, 0, 57344, 122880, 258302, 522494, 1046782, 2095358, 4194303, 0, 0, 25165824, 58720256, 0, 260046848, 528482304, 1073741823]
theorem tb13_16.tab16 : rtab .any (opsOf Try.f13 16) = tb13_16.T16 := by kernel_rfl
theorem tb13_16.bits16 : waitsOk tb13_16.T16.2 tb13_16.B16 = true := by kernel_rfl
set_option maxHeartbeats 16000000 in
set_option maxRecDepth 100000 in
theorem reflabels_calls (w : World) (Av Aa Al : Option Addr) (cv ca cl : Nat) (vs : List Int) (R : List (Int × Int)) (ls : List Lb) (hv : RdI w Av vs) (ha : RdA w Aa R) (hl : RdLb w Al ls) (hvl : vs.length ≤ 400) (hal : R.length ≤ 400) (code : Nat) (hcode : codeV (sorted vs) R = code) :
    Calls Try.prog 13 #[.slice Av vs.length cv, .slice Aa R.length ca, .slice Al ls.length cl] w fun e w' => RefLabPost w code vs R ls e w' := by
  have her := error_calls w Av Aa cv ca vs R hv ha (by omega) (by omega)
  rw [hcode] at her
  obtain ⟨n, hn⟩ : ∃ n, vs.length = n := ⟨_, rfl⟩
  obtain ⟨m, hm⟩ : ∃ m, R.length = m := ⟨_, rfl⟩
  obtain ⟨nl, hnl⟩ : ∃ m, ls.length = m := ⟨_, rfl⟩
  rw [hn, hm] at her
  rw [hn, hm, hnl]
  have HER := Lib.hid her
  have HI := Lib.hid (And.intro hn (And.intro hnl (And.intro hl (And.intro hv (And.intro ha (And.intro hm hcode))))))
  have hn4 : n ≤ 400 := by omega
  have hm4 : m ≤ 400 := by omega
  clear hv ha hl hcode hn hm hnl her hvl hal
  go_enter Try.func13, Try.ntmps13
  go_wp2_with fail
  refine HER.out.mono ?_
  clear HER
  rintro e1 w1 ⟨rfl, hb1⟩
  have HB1 := Lib.hid hb1
  clear hb1
  by_cases hz : code = 0
  · subst hz
    by_cases hdn : nl = n
    · subst hdn
      have hd1 : ((nl : Int) != (nl : Int)) = false := by simp
      obtain ⟨hd, hg⟩ := codeV_zero HI.out.2.2.2.2.2.2
      have hs := lt_of_nodup (sorted_rising vs) hd
      have hsl : (sorted vs).length = nl := by rw [sorted_length]; exact HI.out.1
      have hgc := graph_calls w1 Av Aa cv ca vs R (HI.out.2.2.2.1.below HB1.out) (HI.out.2.2.2.2.1.below HB1.out) (by have := HI.out.1; omega) (by have := HI.out.2.2.2.2.2.1; omega)
      have hcc := fun (W : World) (A AE : Option Addr) (cg ce : Nat) (x : RdI W A (sorted vs)) (y : RdE W AE R) => closure_calls (gw := 0) W A AE cg ce (sorted vs) R x y hs hg (by omega) (by have := HI.out.2.2.2.2.2.1; omega)
      unfold gV at hcc
      rw [hsl, HI.out.2.2.2.2.2.1] at hcc
      rw [HI.out.1, HI.out.2.2.2.2.2.1] at hgc
      have HG := Lib.hid hgc
      have HCC := Lib.hid hcc
      have HSL := Lib.hid hsl
      clear hd hg hs hsl hgc hcc
      go_wp2_with fail
      refine HG.out.mono ?_
      clear HG
      rintro e w2 ⟨A5, cg, AE, ce, rfl, hri, hre, hb2⟩
      unfold gV
      have HR2 := Lib.hid (And.intro hri (And.intro hre hb2))
      clear hri hre hb2
      go_wp2_with fail
      have hal := (Below.refl w2.heap.size w2).alloc (Nat.le_refl _) (.cells #[.slice A5 nl cg, .slice AE m ce, .int .i64 0, .int .i64 0] 35)
      have hat : At (w2.alloc (.cells #[.slice A5 nl cg, .slice AE m ce, .int .i64 0, .int .i64 0] 35)) w2.heap.size [.slice A5 nl cg, .slice AE m ce, .int .i64 0, .int .i64 0] 35 := At.made rfl rfl
      refine (HCC.out _ A5 AE cg ce (RdI.below HR2.out.1 hal) (HR2.out.2.1.below hal)).mono ?_
      clear HCC
      rintro e w3 ⟨A8, c8, rfl, hrc, hb3⟩
      obtain ⟨gx, hgx⟩ : ∃ g, w2.heap.size = g := ⟨_, rfl⟩
      have hat3 := hat.below hb3 hat.lt
      rw [hgx] at hat3 ⊢
      have hb13 := HR2.out.2.2.trans ((hal.trans (hb3.mono hal.size)).mono HR2.out.2.2.size)
      have HC := Lib.hid (And.intro hat3 (And.intro hrc (And.intro (RdI.below (RdI.below HR2.out.1 hal) hb3) (HB1.out.trans (hb13.mono HB1.out.size)))))
      have HLB := Lib.hid (HI.out.2.2.1.below HC.out.2.2.2)
      clear hal hat hat3 hrc hb3 hb13 hgx HR2 HB1
      have q0 : w3.cell? ⟨gx, 0, none⟩ = some (.slice A5 nl cg) := HC.out.1.cell 0 rfl
      go_wp2_with fail
      go_loopg [9] nl (fun kq v9 w' => ∃ i : Nat, v9 = .int .i64 (i : Int) ∧ Hid (i + kq = nl ∧ w' = w3 ∧ ∀ v ∈ (sorted vs).take i, 0 ≤ labI ls v))
      case atStart => exact ⟨0, rfl, Lib.hid ⟨by omega, rfl, fun v hv => by simp at hv⟩⟩
      case round =>
        obtain ⟨i, rfl, hJ⟩ := hrel
        obtain ⟨hik, rfl, hall⟩ := hJ.out
        clear hJ
        by_cases hi : i < nl
        · obtain ⟨k1, rfl⟩ : ∃ k1, gk = k1 + 1 := ⟨gk - 1, by omega⟩
          obtain ⟨u, hx⟩ : ∃ x, (sorted vs)[i]? = some x := ⟨_, List.getElem?_eq_getElem (by have := HSL.out; omega)⟩
          obtain ⟨b5, hA, cx⟩ := HC.out.2.2.1 i u hx
          subst hA
          have hlc := label_calls wr Al cl ls u HLB.out (by have := HI.out.2.1; omega)
          rw [HI.out.2.1] at hlc
          obtain ⟨a, hae⟩ : ∃ a, labI ls u = a := ⟨_, rfl⟩
          rw [hae] at hlc
          have HLC := Lib.hid hlc
          have i0 : (0 : Int) ≤ (i : Int) := by omega
          have i1 : (i : Int) < (nl : Int) := by omega
          have i2 : (nl : Int) ≤ 400 := by omega
          by_cases hneg : a < 0
          · have HN := Lib.hid (show ¬ RefLab (sorted vs) (PE (sorted vs) R) ls from fun h => by
              have := h.1 u (List.mem_of_getElem? hx)
              omega)
            clear hik hall hx hlc hae hi
            go_wp2_with fail
            refine HLC.out.mono ?_
            clear HLC
            rintro e4 w4 ⟨rfl, rfl⟩
            go_wp2
            go_ret
            exact RefLabPost.of false rfl ⟨fun h => (by cases h), fun h => absurd h.2.2 HN.out⟩ HC.out.2.2.2
          · have HN := Lib.hid (show i + 1 + k1 = nl ∧ wr = wr ∧ ∀ v ∈ (sorted vs).take (i + 1), 0 ≤ labI ls v from ⟨by omega, rfl, fun x hx' => by
              rw [List.take_add_one, hx] at hx'
              rcases List.mem_append.1 hx' with hx' | hx'
              · exact hall x hx'
              · obtain rfl : x = u := by simpa using hx'
                omega⟩)
            clear hik hall hx hlc hae hi
            go_wp2_with fail
            refine HLC.out.mono ?_
            clear HLC
            rintro e4 w4 ⟨rfl, rfl⟩
            go_wp2
            go_roundg k1
            case measure => omega
            case rel => exact ⟨i + 1, by go_num, Lib.hid ⟨HN.out.1, rfl, HN.out.2.2⟩⟩
        · obtain rfl : nl = i := by omega
          have jn : ¬ ((nl : Int) < (nl : Int)) := by omega
          rw [List.take_of_length_le (by have := HSL.out; omega)] at hall
          have HALL := Lib.hid hall
          have hn4' : (nl : Int) ≤ 400 := by omega
          clear hall hik hi
          go_wp2_with fail
          clear q0
          go_loopg [10, 11] nl (fun kq v10 v11 w' => ∃ j : Nat, v10 = .int .i64 (j : Int) ∧ Hid (j + kq = nl ∧ Below wr.heap.size wr w' ∧ ∀ x y, x < j → y < nl → (labV ls ((sorted vs).getD x 0)).2.2.any (inSp (labV ls ((sorted vs).getD y 0)).2.1) = rB (PE (sorted vs) R) x y))
          case atStart => exact ⟨0, rfl, Lib.hid ⟨by omega, Below.refl _ _, fun x y hx => by omega⟩⟩
          case round =>
            obtain ⟨i, rfl, hJ⟩ := hrel
            rename World => wq
            obtain ⟨hik, hb, hall⟩ := hJ.out
            clear hJ
            have q0 : wq.cell? ⟨gx, 0, none⟩ = some (.slice A5 nl cg) := (HC.out.1.below hb HC.out.1.lt).cell 0 rfl
            by_cases hi : i < nl
            · obtain ⟨k1, rfl⟩ : ∃ k1, gk = k1 + 1 := ⟨gk - 1, by omega⟩
              obtain ⟨u, hx⟩ : ∃ x, (sorted vs)[i]? = some x := ⟨_, List.getElem?_eq_getElem (by have := HSL.out; omega)⟩
              have HS := Lib.hid (And.intro hik (And.intro hb (And.intro hall hx)))
              have i0 : (0 : Int) ≤ (i : Int) := by omega
              have i1 : (i : Int) < (nl : Int) := by omega
              clear hik hb hall hx hi
              go_wp2_with fail
              clear q0
              go_loopg [11] nl (fun kq v11 w' => ∃ j : Nat, v11 = .int .i64 (j : Int) ∧ Hid (j + kq = nl ∧ Below wr.heap.size wr w' ∧ ∀ y, y < j → (labV ls ((sorted vs).getD i 0)).2.2.any (inSp (labV ls ((sorted vs).getD y 0)).2.1) = rB (PE (sorted vs) R) i y))
              case atStart => exact ⟨0, rfl, Lib.hid ⟨by omega, HS.out.2.1, fun y hy => by omega⟩⟩
              case round =>
                obtain ⟨j, rfl, hJ⟩ := hrel
                rename World => wp
                obtain ⟨hjk, hb, hrow⟩ := hJ.out
                clear hJ
                have q0 : wp.cell? ⟨gx, 0, none⟩ = some (.slice A5 nl cg) := (HC.out.1.below hb HC.out.1.lt).cell 0 rfl
                by_cases hj : j < nl
                · obtain ⟨k2, rfl⟩ : ∃ k2, gk = k2 + 1 := ⟨gk - 1, by omega⟩
                  obtain ⟨v, hy⟩ : ∃ x, (sorted vs)[j]? = some x := ⟨_, List.getElem?_eq_getElem (by have := HSL.out; omega)⟩
                  have HJ := Lib.hid (And.intro hjk (And.intro hrow hy))
                  have j0 : (0 : Int) ≤ (j : Int) := by omega
                  have j1 : (j : Int) < (nl : Int) := by omega
                  have hi' : i < nl := by omega
                  have hj' : j < nl := by omega
                  go_upto_region 16 with (fail)
                  clear q0
                  obtain ⟨wd, hwd⟩ : ∃ wd, wp.drew = wd := ⟨_, rfl⟩
                  have hbd : Below wr.heap.size wr wd := by
                    rw [← hwd]
                    exact hb.trans ((Below.refl _ _).drew.mono hb.size)
                  obtain ⟨a, xa, ha1, ha2, ha3⟩ := labI_nat (HALL.out u (List.mem_of_getElem? HS.out.2.2.2))
                  obtain ⟨b, xb, hb1, hb2, hb3⟩ := labI_nat (HALL.out v (List.mem_of_getElem? hy))
                  obtain ⟨ua, pa, ra⟩ := xa
                  obtain ⟨vb, p, rs⟩ := xb
                  have hLB := HLB.out.below hbd
                  obtain ⟨gl, ol, Ar, cr, hAl, _, _, x2, hra, hrl⟩ := hLB a ua pa ra ha3
                  subst hAl
                  obtain ⟨gl', ol', _, _, hAl, _, y1, _, _, _⟩ := hLB b vb p rs hb3
                  cases hAl
                  obtain ⟨nr, hnr⟩ : ∃ n, ra.length = n := ⟨_, rfl⟩
                  rw [hnr] at x2
                  obtain ⟨b5, hA5, cu⟩ := (HC.out.2.2.1.below hbd) i u HS.out.2.2.2
                  subst hA5
                  obtain ⟨b5', hA5, cv5⟩ := (HC.out.2.2.1.below hbd) j v hy
                  cases hA5
                  have hRC := HC.out.2.1.below hbd
                  obtain ⟨bc, BC, cB, hA8, cc, cbs⟩ := hRC i hi'
                  subst hA8
                  have cb := cbs j hj'
                  obtain ⟨rb, hrb⟩ : ∃ r, rB (PE (sorted vs) R) i j = r := ⟨_, rfl⟩
                  rw [hrb] at cb
                  have c0 : wd.cell? ⟨gx, 0, none⟩ = some (.slice (some ⟨b5, 0, none⟩) nl cg) := (HC.out.1.below hbd HC.out.1.lt).cell 0 rfl
                  have hlu := label_calls wd (some ⟨gl, ol, none⟩) cl ls u hLB (by have := HI.out.2.1; omega)
                  have hlv := label_calls wd (some ⟨gl, ol, none⟩) cl ls v hLB (by have := HI.out.2.1; omega)
                  rw [HI.out.2.1, ha1] at hlu
                  rw [HI.out.2.1, hb1] at hlv
                  obtain ⟨q, hq⟩ : ∃ q, ra.any (inSp p) = q := ⟨_, rfl⟩
                  have hin := in12_calls wd Ar cr ra p hra hrl
                  rw [hnr, hq] at hin
                  have HLU := Lib.hid hlu
                  have HLV := Lib.hid hlv
                  have HIN := Lib.hid hin
                  have HQ := Lib.hid (And.intro c0 (And.intro cu (And.intro cv5 (And.intro x2 (And.intro y1 (And.intro cc cb))))))
                  have a0 : (0 : Int) ≤ (a : Int) := by omega
                  have a1 : (a : Int) < (nl : Int) := by have := HI.out.2.1; omega
                  have b0 : (0 : Int) ≤ (b : Int) := by omega
                  have b1 : (b : Int) < (nl : Int) := by have := HI.out.2.1; omega
                  have hval : (labV ls ((sorted vs).getD i 0)).2.2.any (inSp (labV ls ((sorted vs).getD j 0)).2.1) = q := by
                    rw [getD_at HS.out.2.2.2, getD_at hy, labV_get ha1 ha3, labV_get hb1 hb3]
                    exact hq
                  by_cases hqr : q = rb
                  · have e1 : (q == rb) = true := by rw [hqr]; simp
                    have HN := Lib.hid (show j + 1 + k2 = nl ∧ Below wr.heap.size wr wd ∧ ∀ y, y < j + 1 → (labV ls ((sorted vs).getD i 0)).2.2.any (inSp (labV ls ((sorted vs).getD y 0)).2.1) = rB (PE (sorted vs) R) i y from ⟨by have := HJ.out.1; omega, hbd, fun y hy' => by
                      by_cases hyj : y < j
                      · exact HJ.out.2.1 y hyj
                      · obtain rfl : y = j := by omega
                        rw [hval, hqr, hrb]⟩)
                    clear hjk hb hrow hj hy hbd ha1 ha2 ha3 hb1 hb2 hb3 hLB x2 hra hrl y1 hnr cu cv5 hRC cc cbs cb hrb c0 hlu hlv hin hq hval hqr hi' hj' HJ
                    refine start_ (n := 31) (S := fun w' => w'.cell? ⟨gx, 0, none⟩ = some (.slice (some ⟨b5, 0, none⟩) nl cg) ∧ w'.cell? ⟨b5, i, none⟩ = some (.int .i64 u) ∧ w'.cell? ⟨b5, j, none⟩ = some (.int .i64 v) ∧ w'.cell? ⟨gl, ol + a * 3 + 2, none⟩ = some (.slice Ar nr cr) ∧ w'.cell? ⟨gl, ol + b * 3 + 1, none⟩ = some (.int .i64 p) ∧ w'.cell? ⟨bc, i, none⟩ = some (.slice (some ⟨BC, 0, none⟩) nl cB) ∧ w'.cell? ⟨BC, j, none⟩ = some (.bool rb)) (ds := []) (bA 31 0) (by kernel_rfl) rfl rfl ⟨(by rw [hwd]; exact HQ.out.1), (by rw [hwd]; exact HQ.out.2.1), (by rw [hwd]; exact HQ.out.2.2.1), (by rw [hwd]; exact HQ.out.2.2.2.1), (by rw [hwd]; exact HQ.out.2.2.2.2.1), (by rw [hwd]; exact HQ.out.2.2.2.2.2.1), (by rw [hwd]; exact HQ.out.2.2.2.2.2.2)⟩ (fun hHeld => ?_)
                    rw [hwd] at hHeld ⊢
                    refine with_tabW tb13_16.tab16 tb13_16.bits16 (fun HT_ HW_ => ?_)
                    refine pw_ 0 57 (bA 31 1) HT_.out ?_
                    refine pw_ 1 58 (bA 31 3) HT_.out ?_
                    refine pw_ 2 59 (bA 31 7) HT_.out ?_
                    refine pw_ 4 61 (bA 31 23) HT_.out ?_
                    refine pw_ 11 68 (bA 31 2071) HT_.out ?_
                    refine pw_ 12 69 (bA 31 6167) HT_.out ?_
                    refine pw_ 13 70 (bA 31 14359) HT_.out ?_
                    refine pw_ 15 72 (bA 31 47127) HT_.out ?_
                    refine pw_ 23 80 (bA 31 8435735) HT_.out ?_
                    refine pw_ 24 81 (bA 31 25212951) HT_.out ?_
                    refine pw_ 25 82 (bA 31 58767383) HT_.out ?_
                    refine pw_ 27 84 (bA 31 192985111) HT_.out ?_
                    refine tw_ 3 60 (bA 31 192985119) HT_.out HW_.out hHeld (hv := by rintro w' ⟨s0, s1, s2, s3, s4, s5, s6⟩; go_simp; with_reducible rfl) (h := ?_)
                    refine pw_ 5 62 (bA 31 192985151) HT_.out ?_
                    refine tw_ 6 63 (bA 31 192985215) HT_.out HW_.out hHeld (hv := by rintro w' ⟨s0, s1, s2, s3, s4, s5, s6⟩; go_simp; with_reducible rfl) (h := ?_)
                    refine tw_ 14 71 (bA 31 193001599) HT_.out HW_.out hHeld (hv := by rintro w' ⟨s0, s1, s2, s3, s4, s5, s6⟩; go_simp; with_reducible rfl) (h := ?_)
                    refine pw_ 16 73 (bA 31 193067135) HT_.out ?_
                    refine tw_ 17 74 (bA 31 193198207) HT_.out HW_.out hHeld (hv := by rintro w' ⟨s0, s1, s2, s3, s4, s5, s6⟩; go_simp; with_reducible rfl) (h := ?_)
                    refine tw_ 26 83 (bA 31 260307071) HT_.out HW_.out hHeld (hv := by rintro w' ⟨s0, s1, s2, s3, s4, s5, s6⟩; go_simp; with_reducible rfl) (h := ?_)
                    refine pw_ 28 85 (bA 31 528742527) HT_.out ?_
                    refine tw_ 29 86 (bA 31 1065613439) HT_.out HW_.out hHeld (hv := by rintro w' ⟨s0, s1, s2, s3, s4, s5, s6⟩; go_simp; with_reducible rfl) (h := ?_)
                    refine one_ (i := 7) (N := some 64) (bA 31 1065613567) rfl rfl (one_of HT_.out (by kernel_rfl)) (by decide) (fun K hK => ?_)
                    refine gw_ Try.func36 #[.slice (some ⟨gl, ol, none⟩) nl cl, .int .i64 u] ?_
                    with_reducible refine (HLU.out).mono ?_
                    rintro e wa ⟨rfl, rfl⟩
                    refine ⟨_, rfl, ?_⟩
                    refine hK.out _ _ ⟨HQ.out.1, HQ.out.2.1, HQ.out.2.2.1, HQ.out.2.2.2.1, HQ.out.2.2.2.2.1, HQ.out.2.2.2.2.2.1, HQ.out.2.2.2.2.2.2⟩ (fun hHeld => ?_)
                    clear hK K
                    refine norm_ (a' := ?_) ?_ ?_
                    rotate_left
                    · show Act.put _ (some 64) _ = _
                      simp only [Act.put, pA, pB, pC, pD, pE]; rfl
                    refine pw_ 8 65 (bA 31 1065613823) HT_.out ?_
                    refine pw_ 9 66 (bA 31 1065614335) HT_.out ?_
                    refine tw_ 10 67 (bA 31 1065615359) HT_.out HW_.out hHeld (hv := by rintro w' ⟨s0, s1, s2, s3, s4, s5, s6⟩; go_simp; with_reducible rfl) (h := ?_)
                    refine one_ (i := 18) (N := some 75) (bA 31 1065877503) rfl rfl (one_of HT_.out (by kernel_rfl)) (by decide) (fun K hK => ?_)
                    refine gw_ Try.func36 #[.slice (some ⟨gl, ol, none⟩) nl cl, .int .i64 v] ?_
                    with_reducible refine (HLV.out).mono ?_
                    rintro e wa ⟨rfl, rfl⟩
                    refine ⟨_, rfl, ?_⟩
                    refine hK.out _ _ ⟨HQ.out.1, HQ.out.2.1, HQ.out.2.2.1, HQ.out.2.2.2.1, HQ.out.2.2.2.2.1, HQ.out.2.2.2.2.2.1, HQ.out.2.2.2.2.2.2⟩ (fun hHeld => ?_)
                    clear hK K
                    refine norm_ (a' := ?_) ?_ ?_
                    rotate_left
                    · show Act.put _ (some 75) _ = _
                      simp only [Act.put, pA, pB, pC, pD, pE]; rfl
                    refine pw_ 19 76 (bA 31 1066401791) HT_.out ?_
                    refine pw_ 20 77 (bA 31 1067450367) HT_.out ?_
                    refine tw_ 21 78 (bA 31 1069547519) HT_.out HW_.out hHeld (hv := by rintro w' ⟨s0, s1, s2, s3, s4, s5, s6⟩; go_simp; with_reducible rfl) (h := ?_)
                    refine one_ (i := 22) (N := some 79) (bA 31 1073741823) rfl rfl (one_of HT_.out (by kernel_rfl)) (by decide) (fun K hK => ?_)
                    refine gw_ Try.func37 #[.slice Ar nr cr, .int .i64 p] ?_
                    with_reducible refine (HIN.out).mono ?_
                    rintro e wa ⟨rfl, rfl⟩
                    refine ⟨_, rfl, ?_⟩
                    refine hK.out _ _ ⟨HQ.out.1, HQ.out.2.1, HQ.out.2.2.1, HQ.out.2.2.2.1, HQ.out.2.2.2.2.1, HQ.out.2.2.2.2.2.1, HQ.out.2.2.2.2.2.2⟩ (fun hHeld => ?_)
                    clear hK K
                    refine norm_ (a' := ?_) ?_ ?_
                    rotate_left
                    · show Act.put _ (some 79) _ = _
                      simp only [Act.put, pA, pB, pC, pD, pE]; rfl
                    refine pw_ 30 87 (bA 31 2147483647) HT_.out ?_
                    refine done_ (done_of HT_.out (by kernel_rfl)) ?_
                    clear hHeld HT_ HW_; clear HLU HLV HIN HQ hwd
                    go_wp2
                    go_roundg k2
                    case measure => omega
                    case rel => exact ⟨j + 1, by go_num, HN⟩
                  · have e1 : (q == rb) = false := beq_eq_false_iff_ne.2 hqr
                    have HN := Lib.hid (And.intro (show ¬ RefLab (sorted vs) (PE (sorted vs) R) ls from fun h => by
                      have := h.2 i j (by have := HSL.out; omega) (by have := HSL.out; omega)
                      rw [hval, hrb] at this
                      exact hqr this) (HC.out.2.2.2.trans (hbd.mono HC.out.2.2.2.size)))
                    clear hjk hb hrow hj hy hbd ha1 ha2 ha3 hb1 hb2 hb3 hLB x2 hra hrl y1 hnr cu cv5 hRC cc cbs cb hrb c0 hlu hlv hin hq hval hqr hi' hj' HJ
                    refine start_ (n := 31) (S := fun w' => w'.cell? ⟨gx, 0, none⟩ = some (.slice (some ⟨b5, 0, none⟩) nl cg) ∧ w'.cell? ⟨b5, i, none⟩ = some (.int .i64 u) ∧ w'.cell? ⟨b5, j, none⟩ = some (.int .i64 v) ∧ w'.cell? ⟨gl, ol + a * 3 + 2, none⟩ = some (.slice Ar nr cr) ∧ w'.cell? ⟨gl, ol + b * 3 + 1, none⟩ = some (.int .i64 p) ∧ w'.cell? ⟨bc, i, none⟩ = some (.slice (some ⟨BC, 0, none⟩) nl cB) ∧ w'.cell? ⟨BC, j, none⟩ = some (.bool rb)) (ds := []) (bA 31 0) (by kernel_rfl) rfl rfl ⟨(by rw [hwd]; exact HQ.out.1), (by rw [hwd]; exact HQ.out.2.1), (by rw [hwd]; exact HQ.out.2.2.1), (by rw [hwd]; exact HQ.out.2.2.2.1), (by rw [hwd]; exact HQ.out.2.2.2.2.1), (by rw [hwd]; exact HQ.out.2.2.2.2.2.1), (by rw [hwd]; exact HQ.out.2.2.2.2.2.2)⟩ (fun hHeld => ?_)
                    rw [hwd] at hHeld ⊢
                    refine with_tabW tb13_16.tab16 tb13_16.bits16 (fun HT_ HW_ => ?_)
                    refine pw_ 0 57 (bA 31 1) HT_.out ?_
                    refine pw_ 1 58 (bA 31 3) HT_.out ?_
                    refine pw_ 2 59 (bA 31 7) HT_.out ?_
                    refine pw_ 4 61 (bA 31 23) HT_.out ?_
                    refine pw_ 11 68 (bA 31 2071) HT_.out ?_
                    refine pw_ 12 69 (bA 31 6167) HT_.out ?_
                    refine pw_ 13 70 (bA 31 14359) HT_.out ?_
                    refine pw_ 15 72 (bA 31 47127) HT_.out ?_
                    refine pw_ 23 80 (bA 31 8435735) HT_.out ?_
                    refine pw_ 24 81 (bA 31 25212951) HT_.out ?_
                    refine pw_ 25 82 (bA 31 58767383) HT_.out ?_
                    refine pw_ 27 84 (bA 31 192985111) HT_.out ?_
                    refine tw_ 3 60 (bA 31 192985119) HT_.out HW_.out hHeld (hv := by rintro w' ⟨s0, s1, s2, s3, s4, s5, s6⟩; go_simp; with_reducible rfl) (h := ?_)
                    refine pw_ 5 62 (bA 31 192985151) HT_.out ?_
                    refine tw_ 6 63 (bA 31 192985215) HT_.out HW_.out hHeld (hv := by rintro w' ⟨s0, s1, s2, s3, s4, s5, s6⟩; go_simp; with_reducible rfl) (h := ?_)
                    refine tw_ 14 71 (bA 31 193001599) HT_.out HW_.out hHeld (hv := by rintro w' ⟨s0, s1, s2, s3, s4, s5, s6⟩; go_simp; with_reducible rfl) (h := ?_)
                    refine pw_ 16 73 (bA 31 193067135) HT_.out ?_
                    refine tw_ 17 74 (bA 31 193198207) HT_.out HW_.out hHeld (hv := by rintro w' ⟨s0, s1, s2, s3, s4, s5, s6⟩; go_simp; with_reducible rfl) (h := ?_)
                    refine tw_ 26 83 (bA 31 260307071) HT_.out HW_.out hHeld (hv := by rintro w' ⟨s0, s1, s2, s3, s4, s5, s6⟩; go_simp; with_reducible rfl) (h := ?_)
                    refine pw_ 28 85 (bA 31 528742527) HT_.out ?_
                    refine tw_ 29 86 (bA 31 1065613439) HT_.out HW_.out hHeld (hv := by rintro w' ⟨s0, s1, s2, s3, s4, s5, s6⟩; go_simp; with_reducible rfl) (h := ?_)
                    refine one_ (i := 7) (N := some 64) (bA 31 1065613567) rfl rfl (one_of HT_.out (by kernel_rfl)) (by decide) (fun K hK => ?_)
                    refine gw_ Try.func36 #[.slice (some ⟨gl, ol, none⟩) nl cl, .int .i64 u] ?_
                    with_reducible refine (HLU.out).mono ?_
                    rintro e wa ⟨rfl, rfl⟩
                    refine ⟨_, rfl, ?_⟩
                    refine hK.out _ _ ⟨HQ.out.1, HQ.out.2.1, HQ.out.2.2.1, HQ.out.2.2.2.1, HQ.out.2.2.2.2.1, HQ.out.2.2.2.2.2.1, HQ.out.2.2.2.2.2.2⟩ (fun hHeld => ?_)
                    clear hK K
                    refine norm_ (a' := ?_) ?_ ?_
                    rotate_left
                    · show Act.put _ (some 64) _ = _
                      simp only [Act.put, pA, pB, pC, pD, pE]; rfl
                    refine pw_ 8 65 (bA 31 1065613823) HT_.out ?_
                    refine pw_ 9 66 (bA 31 1065614335) HT_.out ?_
                    refine tw_ 10 67 (bA 31 1065615359) HT_.out HW_.out hHeld (hv := by rintro w' ⟨s0, s1, s2, s3, s4, s5, s6⟩; go_simp; with_reducible rfl) (h := ?_)
                    refine one_ (i := 18) (N := some 75) (bA 31 1065877503) rfl rfl (one_of HT_.out (by kernel_rfl)) (by decide) (fun K hK => ?_)
                    refine gw_ Try.func36 #[.slice (some ⟨gl, ol, none⟩) nl cl, .int .i64 v] ?_
                    with_reducible refine (HLV.out).mono ?_
                    rintro e wa ⟨rfl, rfl⟩
                    refine ⟨_, rfl, ?_⟩
                    refine hK.out _ _ ⟨HQ.out.1, HQ.out.2.1, HQ.out.2.2.1, HQ.out.2.2.2.1, HQ.out.2.2.2.2.1, HQ.out.2.2.2.2.2.1, HQ.out.2.2.2.2.2.2⟩ (fun hHeld => ?_)
                    clear hK K
                    refine norm_ (a' := ?_) ?_ ?_
                    rotate_left
                    · show Act.put _ (some 75) _ = _
                      simp only [Act.put, pA, pB, pC, pD, pE]; rfl
                    refine pw_ 19 76 (bA 31 1066401791) HT_.out ?_
                    refine pw_ 20 77 (bA 31 1067450367) HT_.out ?_
                    refine tw_ 21 78 (bA 31 1069547519) HT_.out HW_.out hHeld (hv := by rintro w' ⟨s0, s1, s2, s3, s4, s5, s6⟩; go_simp; with_reducible rfl) (h := ?_)
                    refine one_ (i := 22) (N := some 79) (bA 31 1073741823) rfl rfl (one_of HT_.out (by kernel_rfl)) (by decide) (fun K hK => ?_)
                    refine gw_ Try.func37 #[.slice Ar nr cr, .int .i64 p] ?_
                    with_reducible refine (HIN.out).mono ?_
                    rintro e wa ⟨rfl, rfl⟩
                    refine ⟨_, rfl, ?_⟩
                    refine hK.out _ _ ⟨HQ.out.1, HQ.out.2.1, HQ.out.2.2.1, HQ.out.2.2.2.1, HQ.out.2.2.2.2.1, HQ.out.2.2.2.2.2.1, HQ.out.2.2.2.2.2.2⟩ (fun hHeld => ?_)
                    clear hK K
                    refine norm_ (a' := ?_) ?_ ?_
                    rotate_left
                    · show Act.put _ (some 79) _ = _
                      simp only [Act.put, pA, pB, pC, pD, pE]; rfl
                    refine pw_ 30 87 (bA 31 2147483647) HT_.out ?_
                    refine done_ (done_of HT_.out (by kernel_rfl)) ?_
                    clear hHeld HT_ HW_; clear HLU HLV HIN HQ hwd
                    go_wp2
                    go_ret
                    exact RefLabPost.of false rfl ⟨fun h => (by cases h), fun h => absurd h.2.2 HN.out.1⟩ HN.out.2
                · obtain rfl : nl = j := by omega
                  have jn : ¬ ((nl : Int) < (nl : Int)) := by omega
                  have HN := Lib.hid (show i + 1 + k1 = nl ∧ Below wr.heap.size wr wp ∧ ∀ x y, x < i + 1 → y < nl → (labV ls ((sorted vs).getD x 0)).2.2.any (inSp (labV ls ((sorted vs).getD y 0)).2.1) = rB (PE (sorted vs) R) x y from ⟨by have := HS.out.1; omega, hb, fun x y hx hy => by
                    by_cases hxi : x < i
                    · exact HS.out.2.2.1 x y hxi hy
                    · obtain rfl : x = i := by omega
                      exact hrow y hy⟩)
                  clear hjk hb hrow hj
                  go_wp2_with fail
                  go_roundg k1
                  case measure => omega
                  case rel => exact ⟨i + 1, by go_num, HN⟩
            · obtain rfl : nl = i := by omega
              have jn2 : ¬ ((nl : Int) < (nl : Int)) := by omega
              have HN := Lib.hid (And.intro (show RefLab (sorted vs) (PE (sorted vs) R) ls from ⟨HALL.out, fun x y hx hy => hall x y (by have := HSL.out; omega) (by have := HSL.out; omega)⟩) (HC.out.2.2.2.trans (hb.mono HC.out.2.2.2.size)))
              clear hik hb hall hi
              go_wp2_with fail
              go_ret
              exact RefLabPost.of true rfl ⟨fun _ => ⟨rfl, HI.out.2.1.trans HI.out.1.symm, HN.out.1⟩, fun _ => rfl⟩ HN.out.2
    · have hd1 : ((nl : Int) != (n : Int)) = true := by simpa using (show ¬ ((nl : Int) = (n : Int)) by omega)
      have HZ := Lib.hid (show ¬ (ls.length = vs.length) from fun h => hdn (HI.out.2.1.symm.trans (h.trans HI.out.1)))
      clear hdn
      go_wp2
      go_ret
      exact RefLabPost.of false rfl ⟨fun h => (by cases h), fun h => absurd h.2.1 HZ.out⟩ HB1.out
  · have hz1 : ((code : Int) != 0) = true := by simpa using (show ¬ ((code : Int) = 0) by omega)
    have HZ := Lib.hid hz
    clear hz
    go_wp2
    go_ret
    exact RefLabPost.of false rfl ⟨fun h => (by cases h), fun h => absurd h.1 HZ.out⟩ HB1.out
end Go.Proofs.Ytgihncjllelonaa.Ce

/- brambleref15: Parts. -/
namespace Go.Proofs.Ytgihncjllelonaa.Ce
open Go Go.RowKit Go.MapKept Go.Proofs.Ytgihncjllelonaa.Mem Go.Proofs.Ytgihncjllelonaa.Sl Go.Proofs.Ytgihncjllelonaa.Lw Go.Proofs.Ytgihncjllelonaa.Tb Go.Proofs.Ytgihncjllelonaa.Scc Go.Proofs.Ytgihncjllelonaa.Tj Go.Proofs.YtgihncjllelonaaW.PrintWords Go.Proofs.YtgihncjllelonaaW.PrintLast
attribute [local go_sem ↓] Go.wp_at_zero Go.wp_at_succ
set_option linter.unusedSimpArgs false
set_option linter.unusedVariables false

def RefPartsPost (w : World) (code : Nat) (gs comps : List (List Int)) (e : Ending) (w' : World) : Prop := ∃ b : Bool, e = .returned (.bool b) ∧ (b = true ↔ (code = 0 ∧ gs.length = comps.length ∧ ∀ g ∈ gs, (comps.map sorted).count g = 1)) ∧ Below w.heap.size w w'
theorem RefPartsPost.of {w w' : World} {code : Nat} {gs comps : List (List Int)} {e : Ending} (b : Bool) (he : e = .returned (.bool b)) (h : b = true ↔ (code = 0 ∧ gs.length = comps.length ∧ ∀ g ∈ gs, (comps.map sorted).count g = 1)) (hb : Below w.heap.size w w') : RefPartsPost w code gs comps e w' := ⟨b, he, h, hb⟩
end Go.Proofs.Ytgihncjllelonaa.Ce

/- cert: quiet. -/
namespace Go.Proofs.Ytgihncjllelonaa.Ce
open Go Go.RowKit Go.MapKept Go.Proofs.Ytgihncjllelonaa.Mem Go.Proofs.Ytgihncjllelonaa.Sl Go.Proofs.Ytgihncjllelonaa.Lw Go.Proofs.Ytgihncjllelonaa.Wt Go.Proofs.Ytgihncjllelonaa.Tb Go.Proofs.YtgihncjllelonaaW.PrintWords Go.Proofs.YtgihncjllelonaaW.PrintLast
attribute [local go_sem ↓] Go.wp_at_zero Go.wp_at_succ
set_option linter.unusedSimpArgs false
set_option linter.unusedVariables false

def quietB (ds : List Ds) (x : Ed) : Bool := (dD ds x.2.1).2.1 || (!(dD ds x.2.2.1).2.1 && decide ((dD ds x.2.2.1).2.2.1 ≤ add32 (dD ds x.2.1).2.2.1 x.2.2.2))
def tb40_2.T2 : Bool × List (List Nat × List Nat) := (true, [([], []), ([0], [0]), ([1], [1]), ([2], [2]), ([3, 2], [2, 3]), ([4, 2], [2, 4]), ([5, 2, 2], [2, 5]), ([6], [6]), ([7, 6], [6, 7]), ([6], [6]), ([9, 6], [6, 9]), ([6], [6]), ([11, 6], [6, 11]), ([10, 12, 6, 6], [6, 10, 12]), ([8, 13, 6], [6, 8, 13]), ([6, 14, 2], [2, 6, 14]), ([2, 15], [2, 15]), ([16, 13, 0, 1, 2, 3, 4, 5, 6, 7, 8, 9, 10, 11, 12, 13, 14, 15, 16], [16])])
def tb40_2.B2 : List Nat := [0, 1, 3, 7, 15, 31, 63, 127, 255, 127, 639, 127, 2175, 7807, 16383, 32767, 65535, 131071]
theorem tb40_2.tab2 : rtab .any (opsOf Try.f40 2) = tb40_2.T2 := by kernel_rfl
theorem tb40_2.bits2 : waitsOk tb40_2.T2.2 tb40_2.B2 = true := by kernel_rfl
set_option maxHeartbeats 8000000 in
set_option maxRecDepth 100000 in
theorem quiet_calls (w : World) (s : Int) (md me : Nat) (ds : List Ds) (es : List Ed) (h : Cm w md me ds es) (e u v : Int) (b : Nat) (hb : b < 4294967296) : Calls Try.prog 40 #[.agg #[.int .i64 s, .map (some md), .map (some me)], .agg #[.int .i64 e, .int .i64 u, .int .i64 v, .int .u32 (b : Int)]] w fun en w' => en = .returned (.bool (quietB ds (e, u, v, b))) ∧ Below w.heap.size w w' := by
  have hb2 : Below w.heap.size w ((w.alloc (.cells #[.int .i64 s, .map (some md), .map (some me)] 87)).alloc (.cells #[.int .i64 e, .int .i64 u, .int .i64 v, .int .u32 (b : Int)] 55)) := ((Below.refl _ _).alloc (Nat.le_refl _) _).alloc (by simp) _
  have hz : ∀ {W : World} (c : Array Value), Below w.heap.size w W → Below w.heap.size w (W.alloc (.cells c 43)) := fun c hW => hW.alloc hW.size _
  have lu := fun (W : World) (hW : Below w.heap.size w W) => (h.below hW).dlook u
  have lv := fun (W : World) (hW : Below w.heap.size w W) => (h.below hW).dlook v
  obtain ⟨⟨ua, uf, ub, ue⟩, hu⟩ : ∃ x, dD ds u = x := ⟨_, rfl⟩
  obtain ⟨⟨va, vf, vb, ve⟩, hv⟩ : ∃ x, dD ds v = x := ⟨_, rfl⟩
  simp only [hu] at lu
  simp only [hv] at lv
  have hub := dD_bits h.db u
  rw [hu] at hub
  have hspec : quietB ds (e, u, v, b) = (uf || (!vf && decide (vb ≤ add32 ub b))) := by
    unfold quietB
    dsimp only
    rw [hu, hv]
  rw [hspec]
  have HSU := Lib.hid (fun W : World => sum_calls ub b W hub hb)
  have l1 := lu _ hb2.drew
  have l2 := fun c => lu _ (hz c hb2).drew
  have l3 := fun c c' => lu _ (hz c' (hz c hb2)).drew
  have l4 := lv _ hb2.drew
  have l5 := fun c => lv _ (hz c hb2).drew
  have l6 := fun c c' => lv _ (hz c' (hz c hb2)).drew
  clear hspec hu hv lu lv hb2 hz h hub
  go_enter Try.func40, Try.ntmps40
  go_upto_region 1 with (fail)
  go_cut [5, 6] (fun v5 v6 wc => ∃ b1 b2 : Nat, v5 = .pointer (some ⟨b1, 0, none⟩) ∧ v6 = .pointer (some ⟨b2, 0, none⟩) ∧ Hid (At wc b1 [.int .i64 ua, .bool uf, .int .u32 (ub : Int), .int .i64 ue] 43 ∧ At wc b2 [.int .i64 va, .bool vf, .int .u32 (vb : Int), .int .i64 ve] 43 ∧ At wc (w.heap.size + 1) [.int .i64 e, .int .i64 u, .int .i64 v, .int .u32 (b : Int)] 55 ∧ Below w.heap.size w wc))
  case first =>
    go_region
    all_goals go_wp2_with fail
    all_goals go_meet
    all_goals exact ⟨_, _, rfl, rfl, Lib.hid ⟨by repeat (first | (refine At.made ?_ rfl; simp; done) | refine At.drew ?_ | refine At.al ?_), by repeat (first | (refine At.made ?_ rfl; simp; done) | refine At.drew ?_ | refine At.al ?_), by repeat (first | (refine At.made ?_ rfl; simp; done) | refine At.drew ?_ | refine At.al ?_), by repeat (first | exact Below.refl _ _ | refine Below.drew ?_ | refine Below.alloc ?_ (by first | (simp; done) | (simp; omega)) _)⟩⟩
  case rest =>
    obtain ⟨b1, b2, rfl, rfl, hc⟩ := hcut
    rename World => wy
    clear l1 l2 l3 l4 l5 l6
    obtain ⟨g3, hg3⟩ : ∃ g, w.heap.size + 1 = g := ⟨_, rfl⟩
    rw [hg3] at hc
    rw [hg3]
    have hX := hc.out
    go_upto_region 2 with (fail)
    obtain ⟨wd, hwd⟩ : ∃ wd, wy.drew = wd := ⟨_, rfl⟩
    have HX := Lib.hid (show At wd b1 [.int .i64 ua, .bool uf, .int .u32 (ub : Int), .int .i64 ue] 43 ∧ At wd b2 [.int .i64 va, .bool vf, .int .u32 (vb : Int), .int .i64 ve] 43 ∧ At wd g3 [.int .i64 e, .int .i64 u, .int .i64 v, .int .u32 (b : Int)] 55 ∧ Below w.heap.size w wd from hwd ▸ ⟨hX.1.drew, hX.2.1.drew, hX.2.2.1.drew, hX.2.2.2.drew⟩)
    clear hX hc hg3
    cases uf with
    | true =>
      refine start_ (n := 18) (S := fun w' => w'.cell? ⟨b1, 1, none⟩ = some (.bool true)) (ds := []) (bA 18 0) (by kernel_rfl) rfl rfl ((by rw [hwd]; exact HX.out.1.cell 1 rfl)) (fun hHeld => ?_)
      rw [hwd] at hHeld ⊢
      refine with_tabW tb40_2.tab2 tb40_2.bits2 (fun HT_ HW_ => ?_)
      refine pw_ 0 17 (bA 18 1) HT_.out ?_
      refine tw_ 1 18 (bA 18 3) HT_.out HW_.out hHeld (hv := by intro w' s0; go_simp; with_reducible rfl) (h := ?_)
      refine pw_ 2 19 (bA 18 7) HT_.out ?_
      refine pu_ 3 20 (bA 18 15) HT_.out ?_
      refine pu_ 4 21 (bA 18 31) HT_.out ?_
      refine pu_ 5 22 (bA 18 63) HT_.out ?_
      refine pu_ 6 23 (bA 18 127) HT_.out ?_
      refine pu_ 7 24 (bA 18 255) HT_.out ?_
      refine pu_ 8 25 (bA 18 511) HT_.out ?_
      refine pu_ 9 26 (bA 18 1023) HT_.out ?_
      refine pu_ 10 27 (bA 18 2047) HT_.out ?_
      refine pu_ 11 28 (bA 18 4095) HT_.out ?_
      refine pu_ 12 29 (bA 18 8191) HT_.out ?_
      refine pu_ 13 30 (bA 18 16383) HT_.out ?_
      refine pu_ 14 31 (bA 18 32767) HT_.out ?_
      refine pu_ 15 32 (bA 18 65535) HT_.out ?_
      refine pw_ 16 33 (bA 18 131071) HT_.out ?_
      refine pw_ 17 4 (bA 18 262143) HT_.out ?_
      refine done_ (done_of HT_.out (by kernel_rfl)) ?_
      clear hHeld HT_ HW_
      go_wp2
      go_ret
      exact ⟨rfl, HX.out.2.2.2⟩
    | false =>
      cases vf with
      | true =>
        refine start_ (n := 18) (S := fun w' => w'.cell? ⟨b1, 1, none⟩ = some (.bool false) ∧ w'.cell? ⟨b2, 1, none⟩ = some (.bool true)) (ds := []) (bA 18 0) (by kernel_rfl) rfl rfl ⟨(by rw [hwd]; exact HX.out.1.cell 1 rfl), (by rw [hwd]; exact HX.out.2.1.cell 1 rfl)⟩ (fun hHeld => ?_)
        rw [hwd] at hHeld ⊢
        refine with_tabW tb40_2.tab2 tb40_2.bits2 (fun HT_ HW_ => ?_)
        refine pw_ 0 17 (bA 18 1) HT_.out ?_
        refine tw_ 1 18 (bA 18 3) HT_.out HW_.out hHeld (hv := by rintro w' ⟨s0, s1⟩; go_simp; with_reducible rfl) (h := ?_)
        refine pw_ 2 19 (bA 18 7) HT_.out ?_
        refine pw_ 3 20 (bA 18 15) HT_.out ?_
        refine tw_ 4 21 (bA 18 31) HT_.out HW_.out hHeld (hv := by rintro w' ⟨s0, s1⟩; go_simp; with_reducible rfl) (h := ?_)
        refine pw_ 5 22 (bA 18 63) HT_.out ?_
        refine pw_ 6 23 (bA 18 127) HT_.out ?_
        refine pu_ 7 24 (bA 18 255) HT_.out ?_
        refine pu_ 8 25 (bA 18 511) HT_.out ?_
        refine pu_ 9 26 (bA 18 1023) HT_.out ?_
        refine pu_ 10 27 (bA 18 2047) HT_.out ?_
        refine pu_ 11 28 (bA 18 4095) HT_.out ?_
        refine pu_ 12 29 (bA 18 8191) HT_.out ?_
        refine pu_ 13 30 (bA 18 16383) HT_.out ?_
        refine pu_ 14 31 (bA 18 32767) HT_.out ?_
        refine pw_ 15 32 (bA 18 65535) HT_.out ?_
        refine pw_ 16 33 (bA 18 131071) HT_.out ?_
        refine pw_ 17 4 (bA 18 262143) HT_.out ?_
        refine done_ (done_of HT_.out (by kernel_rfl)) ?_
        clear hHeld HT_ HW_
        go_wp2
        go_ret
        exact ⟨rfl, HX.out.2.2.2⟩
      | false =>
        refine start_ (n := 18) (S := fun w' => w'.cell? ⟨b1, 1, none⟩ = some (.bool false) ∧ w'.cell? ⟨b2, 1, none⟩ = some (.bool false) ∧ w'.cell? ⟨b2, 2, none⟩ = some (.int .u32 (vb : Int)) ∧ w'.cell? ⟨b1, 2, none⟩ = some (.int .u32 (ub : Int)) ∧ w'.cell? ⟨g3, 3, none⟩ = some (.int .u32 (b : Int))) (ds := []) (bA 18 0) (by kernel_rfl) rfl rfl ⟨(by rw [hwd]; exact HX.out.1.cell 1 rfl), (by rw [hwd]; exact HX.out.2.1.cell 1 rfl), (by rw [hwd]; exact HX.out.2.1.cell 2 rfl), (by rw [hwd]; exact HX.out.1.cell 2 rfl), (by rw [hwd]; exact HX.out.2.2.1.cell 3 rfl)⟩ (fun hHeld => ?_)
        rw [hwd] at hHeld ⊢
        refine with_tabW tb40_2.tab2 tb40_2.bits2 (fun HT_ HW_ => ?_)
        refine pw_ 0 17 (bA 18 1) HT_.out ?_
        refine tw_ 1 18 (bA 18 3) HT_.out HW_.out hHeld (hv := by rintro w' ⟨s0, s1, s2, s3, s4⟩; go_simp; with_reducible rfl) (h := ?_)
        refine pw_ 2 19 (bA 18 7) HT_.out ?_
        refine pw_ 3 20 (bA 18 15) HT_.out ?_
        refine tw_ 4 21 (bA 18 31) HT_.out HW_.out hHeld (hv := by rintro w' ⟨s0, s1, s2, s3, s4⟩; go_simp; with_reducible rfl) (h := ?_)
        refine pw_ 5 22 (bA 18 63) HT_.out ?_
        refine pw_ 6 23 (bA 18 127) HT_.out ?_
        refine pw_ 7 24 (bA 18 255) HT_.out ?_
        refine pw_ 9 26 (bA 18 767) HT_.out ?_
        refine pw_ 11 28 (bA 18 2815) HT_.out ?_
        refine tw_ 8 25 (bA 18 3071) HT_.out HW_.out hHeld (hv := by rintro w' ⟨s0, s1, s2, s3, s4⟩; go_simp; with_reducible rfl) (h := ?_)
        refine tw_ 10 27 (bA 18 4095) HT_.out HW_.out hHeld (hv := by rintro w' ⟨s0, s1, s2, s3, s4⟩; go_simp; with_reducible rfl) (h := ?_)
        refine tw_ 12 29 (bA 18 8191) HT_.out HW_.out hHeld (hv := by rintro w' ⟨s0, s1, s2, s3, s4⟩; go_simp; with_reducible rfl) (h := ?_)
        refine one_ (i := 13) (N := some 30) (bA 18 16383) rfl rfl (one_of HT_.out (by kernel_rfl)) (by decide) (fun K hK => ?_)
        refine gw_ Try.func61 #[.int .u32 (ub : Int), .int .u32 (b : Int)] ?_
        with_reducible refine ((HSU.out wd)).mono ?_
        rintro e1 w1 ⟨rfl, rfl⟩
        refine ⟨_, rfl, ?_⟩
        refine hK.out _ _ ⟨(HX.out.1.cell 1 rfl), (HX.out.2.1.cell 1 rfl), (HX.out.2.1.cell 2 rfl), (HX.out.1.cell 2 rfl), (HX.out.2.2.1.cell 3 rfl)⟩ (fun hHeld => ?_)
        clear hK K
        refine norm_ (a' := ?_) ?_ ?_
        rotate_left
        · show Act.put _ (some 30) _ = _
          simp only [Act.put, pA, pB, pC, pD, pE]; rfl
        refine pw_ 14 31 (bA 18 32767) HT_.out ?_
        refine pw_ 15 32 (bA 18 65535) HT_.out ?_
        refine pw_ 16 33 (bA 18 131071) HT_.out ?_
        refine pw_ 17 4 (bA 18 262143) HT_.out ?_
        refine done_ (done_of HT_.out (by kernel_rfl)) ?_
        clear hHeld HT_ HW_
        go_wp2
        go_ret
        refine ⟨?_, HX.out.2.2.2⟩
        by_cases hq2 : vb ≤ add32 ub b
        · simp [hq2]
        · simp [hq2]
          try omega
end Go.Proofs.Ytgihncjllelonaa.Ce
