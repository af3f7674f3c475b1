/- brambleref13: Error walked. -/
import Derived.Test.YtgihncjllelonaaGreatHt5
import Derived.Test.YtgihncjllelonaaGreatHt29
namespace Go.Proofs.YtgihncjllelonaaGreat.Ce
open Go Go.RowKit Go.MapKept Go.Proofs.YtgihncjllelonaaGreat.Mem Go.Proofs.YtgihncjllelonaaGreat.Sl Go.Proofs.YtgihncjllelonaaGreat.Lw Go.Proofs.YtgihncjllelonaaGreat.Wt Go.Proofs.YtgihncjllelonaaGreat.Tb Go.Proofs.YtgihncjllelonaaGreat.Scc Go.Proofs.YtgihncjllelonaaGreat.Tj Go.Proofs.YtgihncjllelonaaGreatW.PrintWords Go.Proofs.YtgihncjllelonaaGreatW.PrintLast
attribute [local go_sem ↓] Go.wp_at_zero Go.wp_at_succ
set_option linter.unusedSimpArgs false
set_option linter.unusedVariables false

def tb32_11.T11 : Bool × List (List Nat × List Nat) := (true, [([], []), ([], []), ([0, 1], [0, 1]), ([2], [2]), ([], []), ([], []), ([5], [5]), ([4, 6], [4, 6]), ([7], [7]), ([3, 8], [3, 8])])
def tb32_11.B11 : List Nat := [0, 0, 3, 7, 0, 0, 32, 112, 240, 511]
theorem tb32_11.tab11 : rtab .any (opsOf Tryz.f32 11) = tb32_11.T11 := by kernel_rfl
theorem tb32_11.bits11 : waitsOk tb32_11.T11.2 tb32_11.B11 = true := by kernel_rfl
def tb32_16.T16 : Bool × List (List Nat × List Nat) := (true, [([], []), ([], []), ([0, 1], [0, 1]), ([2], [2]), ([], []), ([], []), ([5], [5]), ([4, 6], [4, 6]), ([7], [7]), ([3, 8], [3, 8])])
def tb32_16.B16 : List Nat := [0, 0, 3, 7, 0, 0, 32, 112, 240, 511]
theorem tb32_16.tab16 : rtab .any (opsOf Tryz.f32 16) = tb32_16.T16 := by kernel_rfl
theorem tb32_16.bits16 : waitsOk tb32_16.T16.2 tb32_16.B16 = true := by kernel_rfl
def tb32_24.T24 : Bool × List (List Nat × List Nat) := (true, [([], []), ([], []), ([], []), ([1, 2], [1, 2]), ([3], [3]), ([4], [4]), ([0, 5], [0, 5]), ([6], [6]), ([7, 6], [7]), ([8], [8]), ([8], [8]), ([8], [8]), ([10, 11, 8], [8, 10, 11]), ([12, 8], [8, 12]), ([13, 8], [8, 13]), ([9, 14, 8, 8], [8, 9, 14]), ([15, 8], [8, 15]), ([8, 16], [8, 16])])
def tb32_24.B24 : List Nat := [0, 0, 0, 6, 14, 30, 63, 127, 255, 511, 511, 511, 3583, 7679, 15871, 32767, 65535, 131071]
theorem tb32_24.tab24 : rtab .any (opsOf Tryz.f32 24) = tb32_24.T24 := by kernel_rfl
theorem tb32_24.bits24 : waitsOk tb32_24.T24.2 tb32_24.B24 = true := by kernel_rfl
set_option maxHeartbeats 16000000 in
set_option maxRecDepth 100000 in
theorem error13_calls (w : World) (A1 A2 : Option Addr) (c1 c2 : Nat) (L : List Int) (R : List Ed) (s : Int) (hv : RdI w A1 L) (ha : RdD w A2 R) (hl : L.length ≤ 400) (hr : R.length ≤ 400) (hbit : ∀ p ∈ R, p.2.2.2 < 4294967296) :
    Calls Tryz.prog 32 #[.slice A1 L.length c1, .slice A2 R.length c2, .int .i64 s] w fun e w' => e = .returned (.int .i64 ((tcode (sorted L) R s : Nat) : Int)) ∧ Below w.heap.size w w' := by
  obtain ⟨i1, hi1, hz1, hs1, hy1⟩ := info_parts Lw.info_int
  have HS := Lib.hid (sorted_calls w A1 c1 L hv (by omega))
  have HA := Lib.hid (And.intro ha hbit)
  have HBIT := Lib.hid hbit
  obtain ⟨code, hcode⟩ : ∃ code, tcode (sorted L) R s = code := ⟨_, rfl⟩
  rw [hcode]
  have hrs := sorted_rising L
  have hsl := sorted_length L
  obtain ⟨sl, hsle⟩ : ∃ sl, sorted L = sl := ⟨_, rfl⟩
  rw [hsle] at hrs HS hsl hcode
  have HCD := Lib.hid hcode
  obtain ⟨m, hm⟩ : ∃ m, R.length = m := ⟨_, rfl⟩
  rw [hm] at hr ⊢
  have HM := Lib.hid hm
  clear hv ha hcode hsle hbit hm
  go_enter Tryz.func32, Tryz.ntmps32
  go_wp2_with fail
  refine HS.out.mono ?_
  clear HS
  rintro e w1 ⟨v5, rfl, hO⟩
  obtain ⟨n, hn⟩ : ∃ n, L.length = n := ⟨_, rfl⟩
  rw [hn] at hO hsl hl
  obtain ⟨A5, cg, rfl⟩ := Lw.own_slice hO.r
  have HO := Lib.hid (And.intro (RdI.of_own hO.r).1 hO.b)
  have HR := Lib.hid hrs
  have HN := Lib.hid hsl
  clear hO hrs hsl hn
  go_wp2_with fail
  go_loopg [8, 9] m (fun kq v8 v9 w' => ∃ j : Nat, v9 = .int .i64 (j : Int) ∧ Hid (j + kq = m ∧ w'.ownsRow w1.heap.size 3 1 v8 j (ints ((R.map (·.1)).take j)) ∧ Below w1.heap.size w1 w'))
  case atStart => exact ⟨0, rfl, Lib.hid ⟨by omega, by rw [List.take_zero]; exact World.ownsRow_nil _ _ _ _, Below.refl _ _⟩⟩
  case round =>
    obtain ⟨j, rfl, hI⟩ := hrel
    obtain ⟨hjk, ho, hb⟩ := hI.out
    clear hI
    have j2 : (m : Int) ≤ 400 := by omega
    by_cases hj : j < m
    · obtain ⟨k1, rfl⟩ : ∃ k1, gk = k1 + 1 := ⟨gk - 1, by omega⟩
      obtain ⟨⟨a, u, v, b⟩, hx⟩ : ∃ x, R[j]? = some x := ⟨_, List.getElem?_eq_getElem (by have := HM.out; omega)⟩
      obtain ⟨be, rfl, qe, qu, qv, qb⟩ := ((HA.out.1.below HO.out.2).below hb) j a u v b hx
      have j0 : (0 : Int) ≤ (j : Int) := by omega
      have j1 : (j : Int) < (m : Int) := by omega
      have HO3 := Lib.hid (And.intro ho (And.intro hb hb.size))
      have HN3 := Lib.hid (And.intro hjk (show ints ((R.map (·.1)).take (j + 1)) = ints ((R.map (·.1)).take j) ++ [.int .i64 a] from by
        rw [List.take_add_one, List.getElem?_map, hx]
        simp [ints]))
      have HRV := Lib.hid (fun w => RdV.lit w #[.int .i64 a] 3 1 1 1 rfl (by simp [Value.oneCell']))
      obtain ⟨xs, hxs⟩ : ∃ xs, ints ((R.map (·.1)).take j) = xs := ⟨_, rfl⟩
      rw [hxs] at HO3 HN3
      clear ho hb hx hjk hj qu qv qb hxs
      go_wp2_with ((at_builtin; refine wpList_append_any rfl (.tmp 25) (.tmp 31) 22 rfl w1.heap.size 3 i1 (.int .i64 0) 1 8 Tryz.underlying22 hi1 hz1 hs1 hy1 rfl (by omega) _ _ _ rfl (HO3.out.1.alloc (.cells #[.int .i64 a] 3)) _ rfl 1 [.int .i64 a] (HRV.out _) (by unfold maxLen; omega) (by omega) (by have := HO3.out.2.2; simp; omega) ?_; intro v6 w6 ho hg hn; have hb6 := (HO3.out.2.1.alloc HO3.out.2.2 (.cells #[.int .i64 a] 3)).grown hg (by have := HO3.out.2.2; simp; omega) (fun k hk => (HO3.out.1.lt k hk).1); have HO6 := Lib.hid (And.intro ho hb6); clear ho hg hn hb6))
      go_roundg k1
      case measure => omega
      case rel => exact ⟨j + 1, by go_num, Lib.hid ⟨by have := HN3.out.1; omega, by rw [HN3.out.2]; exact HO6.out.1, HO6.out.2⟩⟩
    · obtain rfl : m = j := by omega
      obtain ⟨A8, c8, rfl⟩ := Lw.own_slice ho
      have hfull : (R.map (·.1)).take m = R.map (·.1) := List.take_of_length_le (by rw [List.length_map]; have := HM.out; omega)
      rw [hfull] at ho
      have HK := Lib.hid (And.intro ((HO.out.1).below hb) (And.intro (HA.out.1.below (HO.out.2.trans (hb.mono HO.out.2.size))) (HO.out.2.trans (hb.mono HO.out.2.size))))
      have hsc := sorted_calls wr A8 c8 (R.map (·.1)) (RdI.of_own ho).1 (by rw [List.length_map]; have := HM.out; omega)
      rw [List.length_map, HM.out] at hsc
      have HSC := Lib.hid hsc
      have hrs2 := sorted_rising (R.map (·.1))
      have hsl2 := sorted_length (R.map (·.1))
      have hmem2 : ∀ x, x ∈ sorted (R.map (·.1)) ↔ x ∈ R.map (·.1) := fun x => (List.mergeSort_perm _ _).mem_iff
      have hnd2 : (sorted (R.map (·.1))).Nodup ↔ (R.map (·.1)).Nodup := (List.mergeSort_perm _ _).nodup_iff
      obtain ⟨kl, hkl⟩ : ∃ kl, sorted (R.map (·.1)) = kl := ⟨_, rfl⟩
      rw [hkl] at HSC hrs2 hsl2 hmem2 hnd2
      rw [List.length_map, HM.out] at hsl2
      have HR2 := Lib.hid (And.intro hrs2 (And.intro hsl2 (And.intro hmem2 hnd2)))
      clear ho hb hjk hj hfull hsc hrs2 hsl2 hmem2 hnd2 hkl
      go_wp2_with fail
      refine HSC.out.mono ?_
      clear HSC
      rintro e w3 ⟨v8, rfl, hO2⟩
      obtain ⟨A9, c9, rfl⟩ := Lw.own_slice hO2.r
      have HW := Lib.hid (And.intro (HK.out.1.below hO2.b) (And.intro ((HK.out.2.1).below hO2.b) (And.intro (HK.out.2.2.trans (hO2.b.mono HK.out.2.2.size)) (RdI.of_own hO2.r).1)))
      clear HK hO2 HO
      go_wp2_with fail
      go_loopg [10] n (fun kq v10 w' => ∃ i : Nat, v10 = .int .i64 ((i + 1 : Nat) : Int) ∧ Hid (i + kq = n ∧ Below w3.heap.size w3 w' ∧ ∀ (j : Nat) (x y : Int), j < i → sl[j]? = some x → sl[j + 1]? = some y → y ≠ x))
      case atStart => exact ⟨0, rfl, Lib.hid ⟨by omega, Below.refl _ _, fun j x y h => by omega⟩⟩
      case round =>
        obtain ⟨i, rfl, hI⟩ := hrel
        obtain ⟨hik, hbw, hne⟩ := hI.out
        clear hI
        have j2 : (n : Int) ≤ 400 := by omega
        by_cases hi : i + 1 < n
        · obtain ⟨k1, rfl⟩ : ∃ k1, gk = k1 + 1 := ⟨gk - 1, by omega⟩
          obtain ⟨x, hx⟩ : ∃ x, sl[i]? = some x := ⟨_, List.getElem?_eq_getElem (by have := HN.out; omega)⟩
          obtain ⟨y, hy⟩ : ∃ y, sl[i + 1]? = some y := ⟨_, List.getElem?_eq_getElem (by have := HN.out; omega)⟩
          obtain ⟨g, hge, cx⟩ := (HW.out.1.below hbw) i x hx
          obtain ⟨g', hge', cy⟩ := (HW.out.1.below hbw) (i + 1) y hy
          subst hge
          cases hge'
          have j0 : (0 : Int) ≤ (i : Int) := by omega
          have j1 : (i : Int) + 1 < (n : Int) := by omega
          have j5 : (0 : Int) ≤ (i : Int) + 1 := by omega
          have j3 : (i : Int) < (n : Int) := by omega
          have e4 : ∀ z : Nat, z = i → wrap64 (z : Int) = (z : Int) := fun z hz => by subst hz; unfold wrap64; omega
          have HIK := Lib.hid (And.intro hik hbw)
          by_cases hxy : y = x
          · subst hxy
            have hnd := twice_of hx hy
            have HC := Lib.hid (show code = 2 by
              rw [← HCD.out]
              exact tcode_dup hnd)
            clear hnd hx hy hne hik hi hbw
            go_upto_region 11 with (fail)
            refine start_ (n := 10) (S := fun w' => w'.cell? ⟨g, i + 1, none⟩ = some (.int .i64 y) ∧ w'.cell? ⟨g, i, none⟩ = some (.int .i64 y)) (ds := []) (bA 10 0) (by kernel_rfl) rfl rfl ⟨cy, cx⟩ (fun hHeld => ?_)
            refine with_tabW tb32_11.tab11 tb32_11.bits11 (fun HT_ HW_ => ?_)
            refine pw_ 0 41 (bA 10 1) HT_.out ?_
            refine pw_ 1 42 (bA 10 3) HT_.out ?_
            refine pw_ 2 43 (bA 10 7) HT_.out ?_
            refine pw_ 4 45 (bA 10 23) HT_.out ?_
            refine pw_ 5 46 (bA 10 55) HT_.out ?_
            refine pw_ 6 47 (bA 10 119) HT_.out ?_
            refine pw_ 7 48 (bA 10 247) HT_.out ?_
            refine tw_ 3 44 (bA 10 255) HT_.out HW_.out hHeld (hv := by rintro w' ⟨s0, s1⟩; go_simp; with_reducible rfl) (h := ?_)
            refine tw_ 8 49 (bA 10 511) HT_.out HW_.out hHeld (hv := by rintro w' ⟨s0, s1⟩; go_simp; with_reducible rfl) (h := ?_)
            refine pw_ 9 50 (bA 10 1023) HT_.out ?_
            refine done_ (done_of HT_.out (by kernel_rfl)) ?_
            clear hHeld HT_ HW_
            go_wp2
            go_ret
            exact ⟨by rw [HC.out]; rfl, HW.out.2.2.1.trans (HIK.out.2.drew.mono HW.out.2.2.1.size)⟩
          · have e1 : (y == x) = false := beq_eq_false_iff_ne.2 hxy
            have HNE := Lib.hid (show ∀ (j : Nat) (p q : Int), j < i + 1 → sl[j]? = some p → sl[j + 1]? = some q → q ≠ p from fun j p q hj hp hq => by
              rcases Nat.lt_or_ge j i with h | h
              · exact hne j p q h hp hq
              · obtain rfl : j = i := by omega
                rw [hx] at hp
                rw [hy] at hq
                cases hp
                cases hq
                exact hxy)
            clear hx hy hne hik hi hxy hbw
            go_upto_region 11 with (fail)
            refine start_ (n := 10) (S := fun w' => w'.cell? ⟨g, i + 1, none⟩ = some (.int .i64 y) ∧ w'.cell? ⟨g, i, none⟩ = some (.int .i64 x)) (ds := []) (bA 10 0) (by kernel_rfl) rfl rfl ⟨cy, cx⟩ (fun hHeld => ?_)
            refine with_tabW tb32_11.tab11 tb32_11.bits11 (fun HT_ HW_ => ?_)
            refine pw_ 0 41 (bA 10 1) HT_.out ?_
            refine pw_ 1 42 (bA 10 3) HT_.out ?_
            refine pw_ 2 43 (bA 10 7) HT_.out ?_
            refine pw_ 4 45 (bA 10 23) HT_.out ?_
            refine pw_ 5 46 (bA 10 55) HT_.out ?_
            refine pw_ 6 47 (bA 10 119) HT_.out ?_
            refine pw_ 7 48 (bA 10 247) HT_.out ?_
            refine tw_ 3 44 (bA 10 255) HT_.out HW_.out hHeld (hv := by rintro w' ⟨s0, s1⟩; go_simp; with_reducible rfl) (h := ?_)
            refine tw_ 8 49 (bA 10 511) HT_.out HW_.out hHeld (hv := by rintro w' ⟨s0, s1⟩; go_simp; with_reducible rfl) (h := ?_)
            refine pw_ 9 50 (bA 10 1023) HT_.out ?_
            refine done_ (done_of HT_.out (by kernel_rfl)) ?_
            clear hHeld HT_ HW_; clear cx cy
            go_wp2
            go_roundg k1
            case measure => have := HIK.out.1; omega
            case rel => exact ⟨i + 1, by go_num, Lib.hid ⟨by have := HIK.out.1; omega, HIK.out.2.drew, HNE.out⟩⟩
        · have hnd : sl.Nodup := rising_of HR.out fun j x y hx hy => hne j x y (by have := (List.getElem?_eq_some_iff.1 hy).1; have := HN.out; omega) hx hy
          have HND1 := Lib.hid hnd
          have HB1 := Lib.hid hbw
          have jx : decide ((i : Int) + 1 < (n : Int)) = false := by rw [decide_eq_false_iff_not]; omega
          obtain ⟨w4, hwq⟩ : ∃ w', wr = w' := ⟨_, rfl⟩
          rw [hwq] at HB1 ⊢
          clear hnd hne hik hi hbw hwq
          go_wp2_with fail
          go_loopg [11] m (fun kq v10 w' => ∃ i : Nat, v10 = .int .i64 ((i + 1 : Nat) : Int) ∧ Hid (i + kq = m ∧ Below w3.heap.size w3 w' ∧ ∀ (j : Nat) (x y : Int), j < i → kl[j]? = some x → kl[j + 1]? = some y → y ≠ x))
          case atStart => exact ⟨0, rfl, Lib.hid ⟨by omega, HB1.out, fun j x y h => by omega⟩⟩
          case round =>
            obtain ⟨i, rfl, hI⟩ := hrel
            obtain ⟨hik, hbw, hne⟩ := hI.out
            clear hI
            have j2 : (m : Int) ≤ 400 := by omega
            by_cases hi : i + 1 < m
            · obtain ⟨k1, rfl⟩ : ∃ k1, gk = k1 + 1 := ⟨gk - 1, by omega⟩
              obtain ⟨x, hx⟩ : ∃ x, kl[i]? = some x := ⟨_, List.getElem?_eq_getElem (by have := HR2.out.2.1; omega)⟩
              obtain ⟨y, hy⟩ : ∃ y, kl[i + 1]? = some y := ⟨_, List.getElem?_eq_getElem (by have := HR2.out.2.1; omega)⟩
              obtain ⟨g, hge, cx⟩ := (HW.out.2.2.2.below hbw) i x hx
              obtain ⟨g', hge', cy⟩ := (HW.out.2.2.2.below hbw) (i + 1) y hy
              subst hge
              cases hge'
              have j0 : (0 : Int) ≤ (i : Int) := by omega
              have j1 : (i : Int) + 1 < (m : Int) := by omega
              have j5 : (0 : Int) ≤ (i : Int) + 1 := by omega
              have j3 : (i : Int) < (m : Int) := by omega
              have e4 : ∀ z : Nat, z = i → wrap64 (z : Int) = (z : Int) := fun z hz => by subst hz; unfold wrap64; omega
              have HIK := Lib.hid (And.intro hik hbw)
              by_cases hxy : y = x
              · subst hxy
                have hnd := twice_of hx hy
                have HC := Lib.hid (show code = 2 by
                  rw [← HCD.out]
                  rw [tcode_eq HND1.out, if_pos fun h => hnd (HR2.out.2.2.2.2 h)])
                clear hnd hx hy hne hik hi hbw
                go_upto_region 16 with (fail)
                refine start_ (n := 10) (S := fun w' => w'.cell? ⟨g, i + 1, none⟩ = some (.int .i64 y) ∧ w'.cell? ⟨g, i, none⟩ = some (.int .i64 y)) (ds := []) (bA 10 0) (by kernel_rfl) rfl rfl ⟨cy, cx⟩ (fun hHeld => ?_)
                refine with_tabW tb32_16.tab16 tb32_16.bits16 (fun HT_ HW_ => ?_)
                refine pw_ 0 57 (bA 10 1) HT_.out ?_
                refine pw_ 1 58 (bA 10 3) HT_.out ?_
                refine pw_ 2 59 (bA 10 7) HT_.out ?_
                refine pw_ 4 61 (bA 10 23) HT_.out ?_
                refine pw_ 5 62 (bA 10 55) HT_.out ?_
                refine pw_ 6 63 (bA 10 119) HT_.out ?_
                refine pw_ 7 64 (bA 10 247) HT_.out ?_
                refine tw_ 3 60 (bA 10 255) HT_.out HW_.out hHeld (hv := by rintro w' ⟨s0, s1⟩; go_simp; with_reducible rfl) (h := ?_)
                refine tw_ 8 65 (bA 10 511) HT_.out HW_.out hHeld (hv := by rintro w' ⟨s0, s1⟩; go_simp; with_reducible rfl) (h := ?_)
                refine pw_ 9 66 (bA 10 1023) HT_.out ?_
                refine done_ (done_of HT_.out (by kernel_rfl)) ?_
                clear hHeld HT_ HW_
                go_wp2
                go_ret
                exact ⟨by rw [HC.out]; rfl, HW.out.2.2.1.trans (HIK.out.2.drew.mono HW.out.2.2.1.size)⟩
              · have e1 : (y == x) = false := beq_eq_false_iff_ne.2 hxy
                have HNE := Lib.hid (show ∀ (j : Nat) (p q : Int), j < i + 1 → kl[j]? = some p → kl[j + 1]? = some q → q ≠ p from fun j p q hj hp hq => by
                  rcases Nat.lt_or_ge j i with h | h
                  · exact hne j p q h hp hq
                  · obtain rfl : j = i := by omega
                    rw [hx] at hp
                    rw [hy] at hq
                    cases hp
                    cases hq
                    exact hxy)
                clear hx hy hne hik hi hxy hbw
                go_upto_region 16 with (fail)
                refine start_ (n := 10) (S := fun w' => w'.cell? ⟨g, i + 1, none⟩ = some (.int .i64 y) ∧ w'.cell? ⟨g, i, none⟩ = some (.int .i64 x)) (ds := []) (bA 10 0) (by kernel_rfl) rfl rfl ⟨cy, cx⟩ (fun hHeld => ?_)
                refine with_tabW tb32_16.tab16 tb32_16.bits16 (fun HT_ HW_ => ?_)
                refine pw_ 0 57 (bA 10 1) HT_.out ?_
                refine pw_ 1 58 (bA 10 3) HT_.out ?_
                refine pw_ 2 59 (bA 10 7) HT_.out ?_
                refine pw_ 4 61 (bA 10 23) HT_.out ?_
                refine pw_ 5 62 (bA 10 55) HT_.out ?_
                refine pw_ 6 63 (bA 10 119) HT_.out ?_
                refine pw_ 7 64 (bA 10 247) HT_.out ?_
                refine tw_ 3 60 (bA 10 255) HT_.out HW_.out hHeld (hv := by rintro w' ⟨s0, s1⟩; go_simp; with_reducible rfl) (h := ?_)
                refine tw_ 8 65 (bA 10 511) HT_.out HW_.out hHeld (hv := by rintro w' ⟨s0, s1⟩; go_simp; with_reducible rfl) (h := ?_)
                refine pw_ 9 66 (bA 10 1023) HT_.out ?_
                refine done_ (done_of HT_.out (by kernel_rfl)) ?_
                clear hHeld HT_ HW_; clear cx cy
                go_wp2
                go_roundg k1
                case measure => have := HIK.out.1; omega
                case rel => exact ⟨i + 1, by go_num, Lib.hid ⟨by have := HIK.out.1; omega, HIK.out.2.drew, HNE.out⟩⟩
            · have hnd : kl.Nodup := rising_of HR2.out.1 fun j x y hx hy => hne j x y (by have := (List.getElem?_eq_some_iff.1 hy).1; have := HR2.out.2.1; omega) hx hy
              have HND2 := Lib.hid hnd
              have HB2 := Lib.hid hbw
              have jx : decide ((i : Int) + 1 < (m : Int)) = false := by rw [decide_eq_false_iff_not]; omega
              obtain ⟨w5, hwq⟩ : ∃ w', wr = w' := ⟨_, rfl⟩
              rw [hwq] at HB2 ⊢
              clear hnd hne hik hi hbw hwq
              obtain ⟨neg, hneg⟩ : ∃ b : Bool, (b = true ↔ ∃ x, kl[0]? = some x ∧ x < 1) := by
                classical
                exact ⟨decide (∃ x, kl[0]? = some x ∧ x < 1), decide_eq_true_iff⟩
              have HG := Lib.hid hneg
              clear hneg
              go_upto_region 18 with (fail)
              go_cut [75] from 67 to 74 (fun s75 wx => s75 = .bool neg ∧ wx = w5)
              case first =>
                by_cases hm0 : (m : Int) > 0
                · obtain ⟨x, hx⟩ : ∃ x, kl[0]? = some x := ⟨_, List.getElem?_eq_getElem (by have := HR2.out.2.1; omega)⟩
                  obtain ⟨g, rfl, cx⟩ := (HW.out.2.2.2.below HB2.out) 0 x hx
                  have hmI : (0 : Int) < (m : Int) := hm0
                  by_cases hx1 : x < 1
                  · have : neg = true := HG.out.2 ⟨x, hx, hx1⟩
                    subst this
                    clear hx
                    go_wp2_with fail
                    go_meet
                    exact ⟨rfl, rfl⟩
                  · have : neg = false := by
                      rw [Bool.eq_false_iff]
                      intro h
                      obtain ⟨y, hy, hy1⟩ := HG.out.1 h
                      rw [hx] at hy
                      cases hy
                      exact hx1 hy1
                    subst this
                    clear hx
                    go_wp2_with fail
                    go_meet
                    exact ⟨rfl, rfl⟩
                · have : neg = false := by
                    rw [Bool.eq_false_iff]
                    intro h
                    obtain ⟨y, hy, hy1⟩ := HG.out.1 h
                    have := (List.getElem?_eq_some_iff.1 hy).1
                    have := HR2.out.2.1
                    omega
                  subst this
                  go_wp2_with fail
                  go_meet
                  exact ⟨rfl, rfl⟩
              case rest =>
                obtain ⟨rfl, rfl⟩ := hcut
                have hK : (R.map (·.1)).Nodup := HR2.out.2.2.2.1 HND2.out
                cases neg with
                | true =>
                  have HC := Lib.hid (show code = 1 by
                    rw [← HCD.out]
                    obtain ⟨x, hx, hx1⟩ := HG.out.1 rfl
                    obtain ⟨p, hp, rfl⟩ := List.mem_map.1 ((HR2.out.2.2.1 x).1 (List.mem_of_getElem? hx))
                    exact tcode_1 HND1.out hK ⟨p, hp, hx1⟩)
                  clear hK
                  go_wp2
                  go_ret
                  exact ⟨by rw [HC.out]; rfl, HW.out.2.2.1.trans (HB2.out.mono HW.out.2.2.1.size)⟩
                | false =>
                  have HPOS := Lib.hid (And.intro hK (show ∀ p ∈ R, 1 ≤ p.1 from fun p hp => by
                    have hm1 := (HR2.out.2.2.1 p.1).2 (List.mem_map.2 ⟨p, hp, rfl⟩)
                    obtain ⟨t, ht, he⟩ := List.getElem_of_mem hm1
                    rcases Nat.lt_or_ge 0 kl.length with h0 | h0
                    · by_cases hx1 : kl[0] < 1
                      · have := HG.out.2 ⟨_, List.getElem?_eq_getElem h0, hx1⟩
                        cases this
                      · rcases Nat.eq_zero_or_pos t with rfl | h2
                        · rw [← he]
                          omega
                        · have := List.pairwise_iff_getElem.1 HR2.out.1 0 t h0 ht h2
                          omega
                    · omega))
                  clear hK HG
                  go_wp2_with fail
                  refine gen_loopw (fun W => At W wc.heap.size [.slice A5 n cg, .slice none 0 0, .int .i64 0, .int .i64 0] 34 ∧ RdI W A5 sl ∧ RdD W A2 R ∧ Below w.heap.size w W) ?_ ?_
                  · have hal := (Below.refl wc.heap.size wc).alloc (Nat.le_refl _) (.cells #[.slice A5 n cg, .slice none 0 0, .int .i64 0, .int .i64 0] 34)
                    exact ⟨At.made rfl rfl, (HW.out.1.below HB2.out).below hal, (HW.out.2.1.below HB2.out).below hal, (HW.out.2.2.1.trans (HB2.out.mono HW.out.2.2.1.size)).trans (hal.mono (Nat.le_trans HW.out.2.2.1.size HB2.out.size))⟩
                  obtain ⟨gb, hgb⟩ : ∃ gb, wc.heap.size = gb := ⟨_, rfl⟩
                  rw [hgb]
                  clear hgb
                  rintro w6 ⟨hat, hri, hra, hb6⟩
                  have HAT := Lib.hid hat
                  have HRI := Lib.hid hri
                  have HRA := Lib.hid hra
                  have HB6 := Lib.hid hb6
                  clear hat hri hra hb6 HW HB1 HB2 HA
                  go_loopg [13] m (fun kq v13 w' => ∃ j : Nat, v13 = .int .i64 (j : Int) ∧ Hid (j + kq = m ∧ Below w6.heap.size w6 w' ∧ ∀ p ∈ R.take j, p.2.1 ∈ sl ∧ p.2.2.1 ∈ sl))
                  case atStart => exact ⟨0, rfl, Lib.hid ⟨by omega, Below.refl _ _, fun p hp => by simp at hp⟩⟩
                  case round =>
                    obtain ⟨j, rfl, hI⟩ := hrel
                    obtain ⟨hjk, hb, hgood⟩ := hI.out
                    clear hI
                    have hC : ∀ (x : Int) (W : World), Below wr.heap.size wr W → Calls Tryz.prog 80 #[.agg #[.slice A5 n cg, .slice none 0 0, .int .i64 0, .int .i64 0], .int .i64 x] W fun e w' => e = .returned (.int .i64 (plI sl x)) ∧ Below W.heap.size W w' := fun x W hW => by
                      have := place_calls (gw := 0) W A5 none cg 0 0 sl x ((HRI.out.below hb).below hW) (lt_of_nodup HR.out HND1.out) (by rw [HN.out]; omega)
                      rw [HN.out] at this
                      exact this
                    have hpl : ∀ x : Int, ¬ plI sl x < 0 → x ∈ sl := fun x hx => by
                      cases h : sl.contains x with
                      | true => exact List.contains_iff_mem.1 h
                      | false => exact absurd (plI_neg.2 h) hx
                    have hpn : ∀ x : Int, plI sl x < 0 → x ∉ sl := fun x hx hm => by
                      have := plI_neg.1 hx
                      rw [List.contains_iff_mem.2 hm] at this
                      cases this
                    by_cases hj : j < m
                    · obtain ⟨k1, rfl⟩ : ∃ k1, gk = k1 + 1 := ⟨gk - 1, by omega⟩
                      obtain ⟨⟨en, u, v, b⟩, hx⟩ : ∃ x, R[j]? = some x := ⟨_, List.getElem?_eq_getElem (by have := HM.out; omega)⟩
                      obtain ⟨b2, rfl, qe, qu, qv, qb⟩ := (HRA.out.below hb) j en u v b hx
                      have q0 := keep_at hb (HAT.out.cell 0 rfl)
                      have q1 := keep_at hb (HAT.out.cell 1 rfl)
                      have q2 := keep_at hb (HAT.out.cell 2 rfl)
                      have q3 := keep_at hb (HAT.out.cell 3 rfl)
                      have HCU := Lib.hid (hC u)
                      have HCV := Lib.hid (hC v)
                      have j0 : (0 : Int) ≤ (j : Int) := by omega
                      have j1 : (j : Int) < (m : Int) := by omega
                      have j2 : (m : Int) ≤ 400 := by omega
                      have HJK := Lib.hid hjk
                      have HBW := Lib.hid hb
                      have hm : (en, u, v, b) ∈ R := List.mem_of_getElem? hx
                      by_cases hu : plI sl u < 0
                      · have e1 : decide (plI sl u < 0) = true := by rw [decide_eq_true_eq]; exact hu
                        have HC := Lib.hid (show code = 5 by
                          rw [← HCD.out, tcode_b HND1.out HPOS.out.1 HPOS.out.2, if_pos ⟨_, hm, fun h => hpn u hu h.1⟩])
                        clear hC hjk hb hgood hx hm hu hj hpl hpn qe qb
                        go_upto_region 24 with (fail)
                        refine start_ (n := 18) (S := fun w' => w'.cell? ⟨gb, 0, none⟩ = some (.slice A5 n cg) ∧ w'.cell? ⟨gb, 1, none⟩ = some (.slice none 0 0) ∧ w'.cell? ⟨gb, 2, none⟩ = some (.int .i64 0) ∧ w'.cell? ⟨gb, 3, none⟩ = some (.int .i64 0) ∧ w'.cell? ⟨b2, j * 4 + 1, none⟩ = some (.int .i64 u) ∧ w'.cell? ⟨b2, j * 4 + 2, none⟩ = some (.int .i64 v)) (ds := []) (bA 18 0) (by kernel_rfl) rfl rfl ⟨q0, q1, q2, q3, qu, qv⟩ (fun hHeld => ?_)
                        refine with_tabW tb32_24.tab24 tb32_24.bits24 (fun HT_ HW_ => ?_)
                        refine pw_ 1 85 (bA 18 2) HT_.out ?_
                        refine pw_ 2 86 (bA 18 6) HT_.out ?_
                        refine pw_ 3 87 (bA 18 14) HT_.out ?_
                        refine pw_ 4 88 (bA 18 30) HT_.out ?_
                        refine tw_ 0 84 (bA 18 31) HT_.out HW_.out hHeld (hv := by rintro w' ⟨s0, s1, s2, s3, s4, s5⟩; go_simp; with_reducible rfl) (h := ?_)
                        refine tw_ 5 89 (bA 18 63) HT_.out HW_.out hHeld (hv := by rintro w' ⟨s0, s1, s2, s3, s4, s5⟩; go_simp; with_reducible rfl) (h := ?_)
                        refine one_ (i := 6) (N := some 90) (bA 18 127) rfl rfl (one_of HT_.out (by kernel_rfl)) (by decide) (fun K hK => ?_)
                        refine gw_ Tryz.func80 #[.agg #[.slice A5 n cg, .slice none 0 0, .int .i64 0, .int .i64 0], .int .i64 u] ?_
                        with_reducible refine ((HCU.out wr.drew (Below.refl _ _).drew)).mono ?_
                        rintro e wa ⟨rfl, hb_wa⟩
                        refine ⟨_, rfl, ?_⟩
                        refine hK.out _ _ ⟨(keep_at hb_wa (show (wr.drew).cell? _ = _ from q0)), (keep_at hb_wa (show (wr.drew).cell? _ = _ from q1)), (keep_at hb_wa (show (wr.drew).cell? _ = _ from q2)), (keep_at hb_wa (show (wr.drew).cell? _ = _ from q3)), (keep_at hb_wa (show (wr.drew).cell? _ = _ from qu)), (keep_at hb_wa (show (wr.drew).cell? _ = _ from qv))⟩ (fun hHeld => ?_)
                        clear hK K
                        refine norm_ (a' := ?_) ?_ ?_
                        rotate_left
                        · show Act.put _ (some 90) _ = _
                          simp only [Act.put, pA, pB, pC, pD, pE]; rfl
                        refine pw_ 7 91 (bA 18 255) HT_.out ?_
                        refine pw_ 8 92 (bA 18 511) HT_.out ?_
                        refine pu_ 9 93 (bA 18 1023) HT_.out ?_
                        refine pu_ 10 94 (bA 18 2047) HT_.out ?_
                        refine pu_ 11 95 (bA 18 4095) HT_.out ?_
                        refine pu_ 12 96 (bA 18 8191) HT_.out ?_
                        refine pu_ 13 97 (bA 18 16383) HT_.out ?_
                        refine pu_ 14 98 (bA 18 32767) HT_.out ?_
                        refine pu_ 15 99 (bA 18 65535) HT_.out ?_
                        refine pu_ 16 100 (bA 18 131071) HT_.out ?_
                        refine pw_ 17 101 (bA 18 262143) HT_.out ?_
                        refine done_ (done_of HT_.out (by kernel_rfl)) ?_
                        clear hHeld HT_ HW_
                        go_wp2
                        go_ret
                        exact ⟨by rw [HC.out]; rfl, (HB6.out.trans (HBW.out.mono HB6.out.size)).trans ((Below.drewL hb_wa).mono (Nat.le_trans HB6.out.size HBW.out.size))⟩
                      · have e1 : decide (plI sl u < 0) = false := by rw [decide_eq_false_iff_not]; exact hu
                        by_cases hv : plI sl v < 0
                        · have e2 : decide (plI sl v < 0) = true := by rw [decide_eq_true_eq]; exact hv
                          have HC := Lib.hid (show code = 5 by
                            rw [← HCD.out, tcode_b HND1.out HPOS.out.1 HPOS.out.2, if_pos ⟨_, hm, fun h => hpn v hv h.2⟩])
                          clear hC hjk hb hgood hx hm hu hv hj hpl hpn qe qb
                          go_upto_region 24 with (fail)
                          refine start_ (n := 18) (S := fun w' => w'.cell? ⟨gb, 0, none⟩ = some (.slice A5 n cg) ∧ w'.cell? ⟨gb, 1, none⟩ = some (.slice none 0 0) ∧ w'.cell? ⟨gb, 2, none⟩ = some (.int .i64 0) ∧ w'.cell? ⟨gb, 3, none⟩ = some (.int .i64 0) ∧ w'.cell? ⟨b2, j * 4 + 1, none⟩ = some (.int .i64 u) ∧ w'.cell? ⟨b2, j * 4 + 2, none⟩ = some (.int .i64 v)) (ds := []) (bA 18 0) (by kernel_rfl) rfl rfl ⟨q0, q1, q2, q3, qu, qv⟩ (fun hHeld => ?_)
                          refine with_tabW tb32_24.tab24 tb32_24.bits24 (fun HT_ HW_ => ?_)
                          refine pw_ 1 85 (bA 18 2) HT_.out ?_
                          refine pw_ 2 86 (bA 18 6) HT_.out ?_
                          refine pw_ 3 87 (bA 18 14) HT_.out ?_
                          refine pw_ 4 88 (bA 18 30) HT_.out ?_
                          refine tw_ 0 84 (bA 18 31) HT_.out HW_.out hHeld (hv := by rintro w' ⟨s0, s1, s2, s3, s4, s5⟩; go_simp; with_reducible rfl) (h := ?_)
                          refine tw_ 5 89 (bA 18 63) HT_.out HW_.out hHeld (hv := by rintro w' ⟨s0, s1, s2, s3, s4, s5⟩; go_simp; with_reducible rfl) (h := ?_)
                          refine one_ (i := 6) (N := some 90) (bA 18 127) rfl rfl (one_of HT_.out (by kernel_rfl)) (by decide) (fun K hK => ?_)
                          refine gw_ Tryz.func80 #[.agg #[.slice A5 n cg, .slice none 0 0, .int .i64 0, .int .i64 0], .int .i64 u] ?_
                          with_reducible refine ((HCU.out wr.drew (Below.refl _ _).drew)).mono ?_
                          rintro e wa ⟨rfl, hb_wa⟩
                          refine ⟨_, rfl, ?_⟩
                          refine hK.out _ _ ⟨(keep_at hb_wa (show (wr.drew).cell? _ = _ from q0)), (keep_at hb_wa (show (wr.drew).cell? _ = _ from q1)), (keep_at hb_wa (show (wr.drew).cell? _ = _ from q2)), (keep_at hb_wa (show (wr.drew).cell? _ = _ from q3)), (keep_at hb_wa (show (wr.drew).cell? _ = _ from qu)), (keep_at hb_wa (show (wr.drew).cell? _ = _ from qv))⟩ (fun hHeld => ?_)
                          clear hK K
                          refine norm_ (a' := ?_) ?_ ?_
                          rotate_left
                          · show Act.put _ (some 90) _ = _
                            simp only [Act.put, pA, pB, pC, pD, pE]; rfl
                          refine pw_ 7 91 (bA 18 255) HT_.out ?_
                          refine pw_ 8 92 (bA 18 511) HT_.out ?_
                          refine pw_ 10 94 (bA 18 1535) HT_.out ?_
                          refine pw_ 11 95 (bA 18 3583) HT_.out ?_
                          refine pw_ 12 96 (bA 18 7679) HT_.out ?_
                          refine pw_ 13 97 (bA 18 15871) HT_.out ?_
                          refine tw_ 9 93 (bA 18 16383) HT_.out HW_.out hHeld (hv := by rintro w' ⟨s0, s1, s2, s3, s4, s5⟩; go_simp; with_reducible rfl) (h := ?_)
                          refine tw_ 14 98 (bA 18 32767) HT_.out HW_.out hHeld (hv := by rintro w' ⟨s0, s1, s2, s3, s4, s5⟩; go_simp; with_reducible rfl) (h := ?_)
                          refine one_ (i := 15) (N := some 99) (bA 18 65535) rfl rfl (one_of HT_.out (by kernel_rfl)) (by decide) (fun K hK => ?_)
                          refine gw_ Tryz.func80 #[.agg #[.slice A5 n cg, .slice none 0 0, .int .i64 0, .int .i64 0], .int .i64 v] ?_
                          with_reducible refine ((HCV.out wa (Below.drewL hb_wa))).mono ?_
                          rintro e wb ⟨rfl, hb_wb⟩
                          refine ⟨_, rfl, ?_⟩
                          refine hK.out _ _ ⟨(keep_at hb_wb (keep_at hb_wa (show (wr.drew).cell? _ = _ from q0))), (keep_at hb_wb (keep_at hb_wa (show (wr.drew).cell? _ = _ from q1))), (keep_at hb_wb (keep_at hb_wa (show (wr.drew).cell? _ = _ from q2))), (keep_at hb_wb (keep_at hb_wa (show (wr.drew).cell? _ = _ from q3))), (keep_at hb_wb (keep_at hb_wa (show (wr.drew).cell? _ = _ from qu))), (keep_at hb_wb (keep_at hb_wa (show (wr.drew).cell? _ = _ from qv)))⟩ (fun hHeld => ?_)
                          clear hK K
                          refine norm_ (a' := ?_) ?_ ?_
                          rotate_left
                          · show Act.put _ (some 99) _ = _
                            simp only [Act.put, pA, pB, pC, pD, pE]; rfl
                          refine pw_ 16 100 (bA 18 131071) HT_.out ?_
                          refine pw_ 17 101 (bA 18 262143) HT_.out ?_
                          refine done_ (done_of HT_.out (by kernel_rfl)) ?_
                          clear hHeld HT_ HW_
                          go_wp2
                          go_ret
                          exact ⟨by rw [HC.out]; rfl, (HB6.out.trans (HBW.out.mono HB6.out.size)).trans (((Below.drewL hb_wa).trans (hb_wb.mono (Below.drewL hb_wa).size)).mono (Nat.le_trans HB6.out.size HBW.out.size))⟩
                        · have e2 : decide (plI sl v < 0) = false := by rw [decide_eq_false_iff_not]; exact hv
                          have HG := Lib.hid (show ∀ p ∈ R.take (j + 1), p.2.1 ∈ sl ∧ p.2.2.1 ∈ sl from fun p hp => by
                            rw [List.take_add_one, hx] at hp
                            rcases List.mem_append.1 hp with h | h
                            · exact hgood p h
                            · have : p = (en, u, v, b) := by simpa using h
                              subst this
                              exact ⟨hpl u hu, hpl v hv⟩)
                          clear hC hjk hb hgood hx hm hu hv hj hpl hpn qe qb
                          go_upto_region 24 with (fail)
                          refine start_ (n := 18) (S := fun w' => w'.cell? ⟨gb, 0, none⟩ = some (.slice A5 n cg) ∧ w'.cell? ⟨gb, 1, none⟩ = some (.slice none 0 0) ∧ w'.cell? ⟨gb, 2, none⟩ = some (.int .i64 0) ∧ w'.cell? ⟨gb, 3, none⟩ = some (.int .i64 0) ∧ w'.cell? ⟨b2, j * 4 + 1, none⟩ = some (.int .i64 u) ∧ w'.cell? ⟨b2, j * 4 + 2, none⟩ = some (.int .i64 v)) (ds := []) (bA 18 0) (by kernel_rfl) rfl rfl ⟨q0, q1, q2, q3, qu, qv⟩ (fun hHeld => ?_)
                          refine with_tabW tb32_24.tab24 tb32_24.bits24 (fun HT_ HW_ => ?_)
                          refine pw_ 1 85 (bA 18 2) HT_.out ?_
                          refine pw_ 2 86 (bA 18 6) HT_.out ?_
                          refine pw_ 3 87 (bA 18 14) HT_.out ?_
                          refine pw_ 4 88 (bA 18 30) HT_.out ?_
                          refine tw_ 0 84 (bA 18 31) HT_.out HW_.out hHeld (hv := by rintro w' ⟨s0, s1, s2, s3, s4, s5⟩; go_simp; with_reducible rfl) (h := ?_)
                          refine tw_ 5 89 (bA 18 63) HT_.out HW_.out hHeld (hv := by rintro w' ⟨s0, s1, s2, s3, s4, s5⟩; go_simp; with_reducible rfl) (h := ?_)
                          refine one_ (i := 6) (N := some 90) (bA 18 127) rfl rfl (one_of HT_.out (by kernel_rfl)) (by decide) (fun K hK => ?_)
                          refine gw_ Tryz.func80 #[.agg #[.slice A5 n cg, .slice none 0 0, .int .i64 0, .int .i64 0], .int .i64 u] ?_
                          with_reducible refine ((HCU.out wr.drew (Below.refl _ _).drew)).mono ?_
                          rintro e wa ⟨rfl, hb_wa⟩
                          refine ⟨_, rfl, ?_⟩
                          refine hK.out _ _ ⟨(keep_at hb_wa (show (wr.drew).cell? _ = _ from q0)), (keep_at hb_wa (show (wr.drew).cell? _ = _ from q1)), (keep_at hb_wa (show (wr.drew).cell? _ = _ from q2)), (keep_at hb_wa (show (wr.drew).cell? _ = _ from q3)), (keep_at hb_wa (show (wr.drew).cell? _ = _ from qu)), (keep_at hb_wa (show (wr.drew).cell? _ = _ from qv))⟩ (fun hHeld => ?_)
                          clear hK K
                          refine norm_ (a' := ?_) ?_ ?_
                          rotate_left
                          · show Act.put _ (some 90) _ = _
                            simp only [Act.put, pA, pB, pC, pD, pE]; rfl
                          refine pw_ 7 91 (bA 18 255) HT_.out ?_
                          refine pw_ 8 92 (bA 18 511) HT_.out ?_
                          refine pw_ 10 94 (bA 18 1535) HT_.out ?_
                          refine pw_ 11 95 (bA 18 3583) HT_.out ?_
                          refine pw_ 12 96 (bA 18 7679) HT_.out ?_
                          refine pw_ 13 97 (bA 18 15871) HT_.out ?_
                          refine tw_ 9 93 (bA 18 16383) HT_.out HW_.out hHeld (hv := by rintro w' ⟨s0, s1, s2, s3, s4, s5⟩; go_simp; with_reducible rfl) (h := ?_)
                          refine tw_ 14 98 (bA 18 32767) HT_.out HW_.out hHeld (hv := by rintro w' ⟨s0, s1, s2, s3, s4, s5⟩; go_simp; with_reducible rfl) (h := ?_)
                          refine one_ (i := 15) (N := some 99) (bA 18 65535) rfl rfl (one_of HT_.out (by kernel_rfl)) (by decide) (fun K hK => ?_)
                          refine gw_ Tryz.func80 #[.agg #[.slice A5 n cg, .slice none 0 0, .int .i64 0, .int .i64 0], .int .i64 v] ?_
                          with_reducible refine ((HCV.out wa (Below.drewL hb_wa))).mono ?_
                          rintro e wb ⟨rfl, hb_wb⟩
                          refine ⟨_, rfl, ?_⟩
                          refine hK.out _ _ ⟨(keep_at hb_wb (keep_at hb_wa (show (wr.drew).cell? _ = _ from q0))), (keep_at hb_wb (keep_at hb_wa (show (wr.drew).cell? _ = _ from q1))), (keep_at hb_wb (keep_at hb_wa (show (wr.drew).cell? _ = _ from q2))), (keep_at hb_wb (keep_at hb_wa (show (wr.drew).cell? _ = _ from q3))), (keep_at hb_wb (keep_at hb_wa (show (wr.drew).cell? _ = _ from qu))), (keep_at hb_wb (keep_at hb_wa (show (wr.drew).cell? _ = _ from qv)))⟩ (fun hHeld => ?_)
                          clear hK K
                          refine norm_ (a' := ?_) ?_ ?_
                          rotate_left
                          · show Act.put _ (some 99) _ = _
                            simp only [Act.put, pA, pB, pC, pD, pE]; rfl
                          refine pw_ 16 100 (bA 18 131071) HT_.out ?_
                          refine pw_ 17 101 (bA 18 262143) HT_.out ?_
                          refine done_ (done_of HT_.out (by kernel_rfl)) ?_
                          clear hHeld HT_ HW_; clear qu qv q0 q1 q2 q3
                          have HBN := Lib.hid (HBW.out.trans (((Below.drewL hb_wa).trans (hb_wb.mono (Below.drewL hb_wa).size)).mono HBW.out.size))
                          clear hb_wa hb_wb
                          go_wp2
                          go_roundg k1
                          case measure => have := HJK.out; omega
                          case rel => exact ⟨j + 1, by go_num, Lib.hid ⟨by have := HJK.out; omega, HBN.out, HG.out⟩⟩
                    · obtain rfl : m = j := by omega
                      rw [List.take_of_length_le (by have := HM.out; omega)] at hgood
                      have q0 := keep_at hb (HAT.out.cell 0 rfl)
                      have q1 := keep_at hb (HAT.out.cell 1 rfl)
                      have q2 := keep_at hb (HAT.out.cell 2 rfl)
                      have q3 := keep_at hb (HAT.out.cell 3 rfl)
                      have HCS := Lib.hid (hC s wr (Below.refl _ _))
                      have HGD := Lib.hid hgood
                      have HBW := Lib.hid hb
                      have HPN := Lib.hid (And.intro (hpl s) (hpn s))
                      have jx : decide ((m : Int) < (m : Int)) = false := by rw [decide_eq_false_iff_not]; omega
                      clear hb hgood hjk hj hC hpl hpn
                      go_wp2_with fail
                      refine HCS.out.mono ?_
                      clear HCS
                      rintro e w7 ⟨rfl, hb7⟩
                      have HB7 := Lib.hid ((HB6.out.trans (HBW.out.mono HB6.out.size)).trans (hb7.mono (Nat.le_trans HB6.out.size HBW.out.size)))
                      have HRA7 := Lib.hid ((HRA.out.below HBW.out).below hb7)
                      clear hb7 q0 q1 q2 q3 HBW HRA HRI HAT
                      by_cases hs : plI sl s < 0
                      · have HC := Lib.hid (show code = 5 by
                          rw [← HCD.out, tcode_c HND1.out HPOS.out.1 HPOS.out.2 HGD.out, if_pos (HPN.out.2 hs)])
                        go_wp2
                        go_ret
                        exact ⟨by rw [HC.out]; rfl, HB7.out⟩
                      · have HCE := Lib.hid (show code = if ∃ p ∈ R, admOk p.2.2.2 = false then 7 else 0 by
                          rw [← HCD.out, tcode_d HND1.out HPOS.out.1 HPOS.out.2 HGD.out (HPN.out.1 (by omega))])
                        clear HPN HGD HPOS
                        go_wp2_with fail
                        go_loopg [14] m (fun kq v14 w' => ∃ j : Nat, v14 = .int .i64 (j : Int) ∧ Hid (j + kq = m ∧ w' = w7 ∧ ∀ p ∈ R.take j, admOk p.2.2.2 = true))
                        case atStart => exact ⟨0, rfl, Lib.hid ⟨by omega, rfl, fun p hp => by simp at hp⟩⟩
                        case round =>
                          obtain ⟨j, rfl, hI⟩ := hrel
                          obtain ⟨hjk, rfl, hgood⟩ := hI.out
                          clear hI
                          have j2 : (m : Int) ≤ 400 := by omega
                          by_cases hj : j < m
                          · obtain ⟨k1, rfl⟩ : ∃ k1, gk = k1 + 1 := ⟨gk - 1, by omega⟩
                            obtain ⟨⟨en, u, v, b⟩, hx⟩ : ∃ x, R[j]? = some x := ⟨_, List.getElem?_eq_getElem (by have := HM.out; omega)⟩
                            obtain ⟨b2, rfl, qe, qu, qv, qb⟩ := HRA7.out j en u v b hx
                            have hm : (en, u, v, b) ∈ R := List.mem_of_getElem? hx
                            have HAD := Lib.hid (admit13_calls b wr (HBIT.out _ hm))
                            obtain ⟨r, hr'⟩ : ∃ r, admR b = r := ⟨_, rfl⟩
                            rw [hr'] at HAD
                            have j0 : (0 : Int) ≤ (j : Int) := by omega
                            have j1 : (j : Int) < (m : Int) := by omega
                            have HJK := Lib.hid hjk
                            clear hr' qe qu qv
                            cases hok : admOk b with
                            | false =>
                              rw [hok] at HAD
                              have HC := Lib.hid (show code = 7 by
                                rw [HCE.out, if_pos ⟨_, hm, hok⟩])
                              clear hjk hgood hx hm hok hj
                              go_wp2_with fail
                              refine HAD.out.mono ?_
                              rintro e w8 ⟨rfl, rfl⟩
                              go_wp2
                              go_ret
                              exact ⟨by rw [HC.out]; rfl, HB7.out⟩
                            | true =>
                              rw [hok] at HAD
                              have HG := Lib.hid (show ∀ p ∈ R.take (j + 1), admOk p.2.2.2 = true from fun p hp => by
                                rw [List.take_add_one, hx] at hp
                                rcases List.mem_append.1 hp with h | h
                                · exact hgood p h
                                · have : p = (en, u, v, b) := by simpa using h
                                  subst this
                                  exact hok)
                              clear hjk hgood hx hm hok hj
                              go_wp2_with fail
                              refine HAD.out.mono ?_
                              rintro e w8 ⟨rfl, rfl⟩
                              go_wp2
                              go_roundg k1
                              case measure => have := HJK.out; omega
                              case rel => exact ⟨j + 1, by go_num, Lib.hid ⟨by have := HJK.out; omega, rfl, HG.out⟩⟩
                          · obtain rfl : m = j := by omega
                            rw [List.take_of_length_le (by have := HM.out; omega)] at hgood
                            have HC := Lib.hid (show code = 0 by
                              rw [HCE.out, if_neg fun ⟨p, hp, h⟩ => by rw [hgood p hp] at h; cases h])
                            have jx : decide ((m : Int) < (m : Int)) = false := by rw [decide_eq_false_iff_not]; omega
                            clear hgood hjk hj
                            go_wp2
                            go_ret
                            exact ⟨by rw [HC.out]; rfl, HB7.out⟩
end Go.Proofs.YtgihncjllelonaaGreat.Ce
