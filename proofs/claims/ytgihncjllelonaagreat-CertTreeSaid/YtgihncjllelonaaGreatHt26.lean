/- The references' Reached, walked. -/
import Derived.Test.YtgihncjllelonaaGreatHt5
import Derived.Test.YtgihncjllelonaaGreatHt25
import Derived.Test.YtgihncjllelonaaGreatHt12
import Derived.Test.YtgihncjllelonaaGreatHt23
namespace Go.Proofs.YtgihncjllelonaaGreat.Lw
open Go Go.RowKit Go.Proofs.YtgihncjllelonaaGreat.Mem Go.Proofs.YtgihncjllelonaaGreat.Sl Go.Proofs.YtgihncjllelonaaGreat.Scc Go.Proofs.YtgihncjllelonaaGreat.Tj Go.Proofs.YtgihncjllelonaaGreatW.PrintWords Go.Proofs.YtgihncjllelonaaGreatW.PrintLast
attribute [local go_sem ↓] Go.wp_at_zero Go.wp_at_succ
set_option linter.unusedSimpArgs false
set_option linter.unusedVariables false

theorem count_set_lt : ∀ (l : List Bool) (i : Nat), l[i]? = some false → (l.set i true).count false < l.count false
  | [], i, h => by simp at h
  | b :: r, 0, h => by
    have : b = false := by simpa using h
    subst this
    simp
  | b :: r, i + 1, h => by
    have := count_set_lt r i (by simpa using h)
    simp only [List.set_cons_succ, List.count_cons]
    omega

def Snd (E : Nat → Nat → Prop) (i0 : Nat) (rb : List Bool) : Prop := rb[i0]? = some true ∧ ∀ x : Nat, rb[x]? = some true → Rch E i0 x
def Cls (sl : List Int) (R : List (Int × Int)) (k : Nat) (rb : List Bool) : Prop := ∀ p ∈ R.take k, rb[place sl p.1]? = some true → rb[place sl p.2]? = some true

theorem reached_all {sl : List Int} {R : List (Int × Int)} {i0 : Nat} {rb : List Bool} (hs : Snd (PE sl R) i0 rb) (hc : Cls sl R R.length rb) (x : Nat) : rb[x]? = some true ↔ Rch (PE sl R) i0 x := by
  refine ⟨hs.2 x, fun h => ?_⟩
  induction h with
  | refl => exact hs.1
  | step _ he ih =>
    obtain ⟨p, hp, h1, h2⟩ := he
    have := hc p (by rw [List.take_length]; exact hp) (by rw [h1]; exact ih)
    rw [h2] at this
    exact this

structure Pass (sl : List Int) (R : List (Int × Int)) (i0 k : Nat) (rb0 rb : List Bool) (again : Bool) : Prop where
  snd : Snd (PE sl R) i0 rb
  len : rb.length = rb0.length
  no : again = false → rb = rb0 ∧ Cls sl R k rb
  yes : again = true → rb.count false < rb0.count false

theorem Pass.keep {sl : List Int} {R : List (Int × Int)} {i0 k : Nat} {rb0 rb : List Bool} {again : Bool} {u v : Int} (h : Pass sl R i0 k rb0 rb again) (hx : R[k]? = some (u, v)) (hk : rb[place sl u]? = some true → rb[place sl v]? = some true) : Pass sl R i0 (k + 1) rb0 rb again := by
  refine ⟨h.snd, h.len, fun ha => ⟨(h.no ha).1, fun p hp => ?_⟩, h.yes⟩
  rw [List.take_add_one, hx] at hp
  rcases List.mem_append.1 hp with hp | hp
  · exact (h.no ha).2 p hp
  · have : p = (u, v) := by simpa using hp
    subst this
    exact hk
theorem Pass.turn {sl : List Int} {R : List (Int × Int)} {i0 k : Nat} {rb0 rb : List Bool} {again : Bool} {u v : Int} (h : Pass sl R i0 k rb0 rb again) (hx : R[k]? = some (u, v)) (hu : rb[place sl u]? = some true) (hv : rb[place sl v]? = some false) : Pass sl R i0 (k + 1) rb0 (rb.set (place sl v) true) true := by
  have hvl : place sl v < rb.length := (List.getElem?_eq_some_iff.1 hv).1
  have hlt := count_set_lt rb (place sl v) hv
  refine ⟨⟨?_, fun x hx2 => ?_⟩, by rw [List.length_set]; exact h.len, fun ha => (by cases ha), fun _ => ?_⟩
  · by_cases he : i0 = place sl v
    · rw [← he] at hv
      rw [h.snd.1] at hv
      cases hv
    · rw [List.getElem?_set_ne (Ne.symm he)]
      exact h.snd.1
  · by_cases he : x = place sl v
    · subst he
      exact .step (h.snd.2 _ hu) ⟨(u, v), List.mem_of_getElem? hx, rfl, rfl⟩
    · rw [List.getElem?_set_ne (Ne.symm he)] at hx2
      exact h.snd.2 x hx2
  · cases again with
    | true => have := h.yes rfl; omega
    | false => have := (h.no rfl).1; rw [this] at hlt; rw [this]; exact hlt

theorem plI_pos {sl : List Int} {v : Int} (h : sl.contains v = true) : plI sl v = ((place sl v : Nat) : Int) := by
  unfold plI
  rw [if_pos h]

structure RSt (gw : Int) (w : World) (gx gi : Nat) (A : Option Addr) (n cg : Nat) (AE : Option Addr) (m ce : Nat) (rb : List Bool) (W : World) : Prop where
  x : At W gx [.slice A n cg, .slice AE m ce, .int .i64 0, .int .i64 gw] 34
  i : At W gi (bls rb) 4
  ne : gx ≠ gi
  hx : w.heap.size ≤ gx
  hi : w.heap.size ≤ gi
  b : Below w.heap.size w W
  len : rb.length = n
section
variable {gw : Int} {w W W' : World} {gx gi n cg m ce : Nat} {A AE : Option Addr} {rb : List Bool}
theorem RSt.below (h : RSt gw w gx gi A n cg AE m ce rb W) (hb : Below W.heap.size W W') : RSt gw w gx gi A n cg AE m ce rb W' := ⟨h.x.below hb h.x.lt, h.i.below hb h.i.lt, h.ne, h.hx, h.hi, h.b.trans (hb.mono h.b.size), h.len⟩
theorem RSt.set (h : RSt gw w gx gi A n cg AE m ce rb W) (j : Nat) (y : Bool) : RSt gw w gx gi A n cg AE m ce (rb.set j y) (W.setCell ⟨gi, j, none⟩ (.bool y)) :=
  ⟨h.x.off h.ne, h.i.put (bls_set _ _ _).symm, h.ne, h.hx, h.hi, h.b.setCell h.hi _, by rw [List.length_set]; exact h.len⟩
end
theorem zero_set {a : List Bool} {i n : Nat} {y : Bool} (ha : a.length = i) (hi : i < n) : (a ++ List.replicate (n - i) false).set i y = (a ++ [y]) ++ List.replicate (n - (i + 1)) false := by
  obtain ⟨k, hk⟩ : ∃ k, n - i = k + 1 := ⟨n - i - 1, by omega⟩
  rw [hk, show n - (i + 1) = k by omega, List.replicate_succ, List.set_append, if_neg (by omega), ha, Nat.sub_self, List.set_cons_zero, List.append_assoc]
  rfl

def tb126_12.T12 : Bool × List (List Nat × List Nat) := (true, [([], []), ([], []), ([1], [1]), ([], []), ([2, 3], [2, 3]), ([4], [4]), ([5], [5]), ([0, 6], [0, 6]), ([], []), ([], []), ([9], [9]), ([], []), ([10, 11], [10, 11]), ([12], [12]), ([13], [13]), ([8, 14, 7], [8, 14]), ([7, 15, 0, 1, 2, 3, 4, 5, 6, 7], [7]), ([15, 16, 0, 1, 2, 3, 4, 5, 6, 7, 8, 9, 10, 11, 12, 13, 14, 15, 16], [15])])
def tb126_12.B12 : List Nat := [0, 0, 2, 0, 14, 30, 62, 127, 0, 0, 512, 0, 3584, 7680, 15872, 32767, 65535, 131071]
theorem tb126_12.tab12 : rtab .any (opsOf Tryz.f126 12) = tb126_12.T12 := by kernel_rfl
theorem tb126_12.bits12 : waitsOk tb126_12.T12.2 tb126_12.B12 = true := by kernel_rfl
set_option maxHeartbeats 8000000 in
set_option maxRecDepth 100000 in
theorem reached_calls {gw : Int} (w : World) (A AE : Option Addr) (cg ce i0 : Nat) (sl : List Int) (R : List (Int × Int)) (s : Int) (hv : RdI w A sl) (he : RdE w AE R) (hs : sl.Pairwise (· < ·)) (hgood : good sl R = true) (h0 : sl[i0]? = some s) (hl : sl.length ≤ 1000) (hr : R.length ≤ 100000) :
    Calls Tryz.prog 126 #[gV A sl.length cg (.slice AE R.length ce) gw, .int .i64 s] w fun e w' => ∃ v rb, e = .returned v ∧ One w 4 1 v sl.length (bls rb) w' ∧ rb.length = sl.length ∧ ∀ x : Nat, rb[x]? = some true ↔ Rch (PE sl R) i0 x := by
  obtain ⟨n, hn⟩ : ∃ n, sl.length = n := ⟨_, rfl⟩
  rw [hn] at hl ⊢
  have HV := Lib.hid hv
  have HE := Lib.hid he
  have HS := Lib.hid hs
  have HGD := Lib.hid hgood
  have H0 := Lib.hid h0
  have HN := Lib.hid hn
  clear hv he hs hgood h0 hn
  unfold gV
  have hm1 := fun wx => run_make_row' (P := Tryz.prog) 188 4 (.bool false) 1 Tryz.underlying188 info_bool rfl .i64 .i64 n (by omega) (by omega) wx
  go_enter Tryz.func126, Tryz.ntmps126
  go_wp2_with fail
  clear hm1
  refine gen_loopw (fun W => RSt gw w w.heap.size (w.heap.size + 1) A n cg AE R.length ce (List.replicate n false) W) ?_ ?_
  · exact ⟨(At.made rfl rfl).al, At.made (by simp) (by rw [toList_madeCells_one]; simp [bls]), by omega, Nat.le_refl _, by omega, ((Below.refl _ _).alloc (Nat.le_refl _) _).alloc (by simp) _, by simp⟩
  obtain ⟨gx, hgx⟩ : ∃ gx, w.heap.size = gx := ⟨_, rfl⟩
  obtain ⟨gi, hgi⟩ : ∃ gi, w.heap.size + 1 = gi := ⟨_, rfl⟩
  rw [hgi, hgx]
  clear hgx hgi
  intro w3 hG
  have HG3 := Lib.hid hG
  clear hG
  go_loopg [6] n (fun kq v6 w' => ∃ i : Nat, v6 = .int .i64 (i : Int) ∧ Hid (i + kq = n ∧ RSt gw w gx gi A n cg AE R.length ce ((sl.take i).map (fun x => x == s) ++ List.replicate (n - i) false) w'))
  case atStart => exact ⟨0, rfl, Lib.hid ⟨by omega, by simpa using HG3.out⟩⟩
  case round =>
    clear HG3
    obtain ⟨i, rfl, hI⟩ := hrel
    obtain ⟨hik, hG⟩ := hI.out
    clear hI
    by_cases hi : i < n
    · obtain ⟨k1, rfl⟩ : ∃ k1, gk = k1 + 1 := ⟨gk - 1, by omega⟩
      obtain ⟨x, hx⟩ : ∃ x, sl[i]? = some x := ⟨_, List.getElem?_eq_getElem (by have := HN.out; omega)⟩
      obtain ⟨b, rfl, cx⟩ := (HV.out.below hG.b) i x hx
      have q0 := hG.x.cell 0 rfl
      obtain ⟨x0, hx0⟩ : ∃ x0, wr.cell? ⟨gi, i, none⟩ = some x0 := ⟨_, hG.i.cell i (List.getElem?_eq_getElem (by rw [bls_length, hG.len]; exact hi))⟩
      have hfr := hG.i.free i
      have hset := hG.set i (x == s)
      have htk : (sl.take (i + 1)).map (fun x => x == s) = (sl.take i).map (fun x => x == s) ++ [x == s] := by rw [List.take_add_one, hx]; simp
      rw [zero_set (by rw [List.length_map, List.length_take]; have := HN.out; omega) hi, ← htk] at hset
      have HSET := Lib.hid hset
      have HIK := Lib.hid hik
      have j0 : (0 : Int) ≤ (i : Int) := by omega
      have j1 : (i : Int) < (n : Int) := by omega
      have j2 : (n : Int) ≤ 1000 := by omega
      clear hG hset htk hx hik hi
      go_wp2
      go_roundg k1
      case measure => have := HIK.out; omega
      case rel => exact ⟨i + 1, by go_num, Lib.hid ⟨by have := HIK.out; omega, HSET.out⟩⟩
    · obtain rfl : n = i := by omega
      rw [List.take_of_length_le (by have := HN.out; omega), Nat.sub_self, List.replicate_zero, List.append_nil] at hG
      obtain ⟨rb1, hrb1⟩ : ∃ rb1, sl.map (fun x => x == s) = rb1 := ⟨_, rfl⟩
      rw [hrb1] at hG
      have hsnd : Snd (PE sl R) i0 rb1 := by
        rw [← hrb1]
        refine ⟨by rw [List.getElem?_map, H0.out]; simp, fun x hx => ?_⟩
        rw [List.getElem?_map] at hx
        cases hsx : sl[x]? with
        | none => rw [hsx] at hx; cases hx
        | some y =>
          rw [hsx] at hx
          have hys : y = s := by simpa using hx
          subst hys
          obtain ⟨a1, a2⟩ := List.getElem?_eq_some_iff.1 hsx
          obtain ⟨b1, b2⟩ := List.getElem?_eq_some_iff.1 H0.out
          have : x = i0 := by
            rcases Nat.lt_trichotomy x i0 with h | h | h
            · have := List.pairwise_iff_getElem.1 HS.out x i0 a1 b1 h; omega
            · exact h
            · have := List.pairwise_iff_getElem.1 HS.out i0 x b1 a1 h; omega
          subst this
          exact .refl _
      have HG1 := Lib.hid hG
      have HSN := Lib.hid hsnd
      have q0 := hG.x.cell 0 rfl
      clear hG hsnd hrb1 hik hi
      go_wp2_with fail
      clear q0
      go_loopg [7] (rb1.count false + 1) (fun kq v7 w' => ∃ (again : Bool) (rb : List Bool), v7 = .bool again ∧ Hid (RSt gw w gx gi A n cg AE R.length ce rb w' ∧ Snd (PE sl R) i0 rb ∧ (again = false → Cls sl R R.length rb) ∧ kq = if again = true then rb.count false + 1 else 0))
      case atStart => exact ⟨true, rb1, rfl, Lib.hid ⟨HG1.out, HSN.out, fun h => (by cases h), by rw [if_pos rfl]⟩⟩
      case round =>
        clear HG1 HSN
        obtain ⟨again, rb, rfl, hI⟩ := hrel
        obtain ⟨hG, hsn, hcl, hkq⟩ := hI.out
        clear hI
        cases again with
        | false =>
          have HG := Lib.hid hG
          have HALL := Lib.hid (reached_all hsn (hcl rfl))
          clear hG hsn hcl hkq
          go_wp2
          go_ret
          refine ⟨_, rb, rfl, ⟨?_, HG.out.b⟩, HG.out.len, HALL.out⟩
          have h := HG.out
          refine ⟨by rw [bls_length, h.len, Nat.mul_one], .inr ⟨gi, n, (bls rb).toArray, rfl, h.hi, h.i, Nat.le_refl _, by unfold maxLen; omega, by rw [List.size_toArray, bls_length, h.len, Nat.mul_one], ?_⟩⟩
          rw [List.take_of_length_le (by rw [bls_length, h.len, Nat.mul_one]; exact Nat.le_refl _)]
        | true =>
          rw [if_pos rfl] at hkq
          subst hkq
          have HG := Lib.hid hG
          have HSN := Lib.hid hsn
          clear hG hsn hcl
          go_wp2_with fail
          go_loopg [7, 8] R.length (fun kq v7 v8 w' => ∃ (k : Nat) (again : Bool) (rb' : List Bool), v7 = .bool again ∧ v8 = .int .i64 (k : Int) ∧ Hid (k + kq = R.length ∧ RSt gw w gx gi A n cg AE R.length ce rb' w' ∧ Pass sl R i0 k rb rb' again))
          case atStart => exact ⟨0, false, rb, rfl, rfl, Lib.hid ⟨by omega, HG.out, ⟨HSN.out, rfl, fun _ => ⟨rfl, fun p hp => by simp at hp⟩, fun h => (by cases h)⟩⟩⟩
          case round =>
            clear HG HSN
            obtain ⟨k, again, rb', rfl, rfl, hI⟩ := hrel
            obtain ⟨hkk, hG, hP⟩ := hI.out
            clear hI
            have q1 := hG.x.cell 1 rfl
            by_cases hk : k < R.length
            · obtain ⟨k1, rfl⟩ : ∃ k1, gk = k1 + 1 := ⟨gk - 1, by omega⟩
              obtain ⟨⟨u, v⟩, hxx⟩ : ∃ x, R[k] = x := ⟨_, rfl⟩
              have hx : R[k]? = some (u, v) := by rw [List.getElem?_eq_getElem hk, hxx]
              obtain ⟨be, rfl, qu, qv⟩ := (HE.out.below hG.b) k u v hx
              have q0 := hG.x.cell 0 rfl
              have q2 := hG.x.cell 2 rfl
              have q3 := hG.x.cell 3 rfl
              have hgp := good_iff.1 HGD.out _ (List.mem_of_getElem? hx)
              have hC : ∀ (x : Int), sl.contains x = true → ∀ (W : World), Below wr.heap.size wr W → Calls Tryz.prog 80 #[.agg #[.slice A n cg, .slice (some ⟨be, 0, none⟩) R.length ce, .int .i64 0, .int .i64 gw], .int .i64 x] W fun e w' => e = .returned (.int .i64 ((place sl x : Nat) : Int)) ∧ Below W.heap.size W w' := fun x hcx W hW => by
                have := place_calls (gw := gw) W A (some ⟨be, 0, none⟩) cg R.length ce sl x ((HV.out.below hG.b).below hW) HS.out (by rw [HN.out]; omega)
                rw [HN.out, plI_pos hcx] at this
                exact this
              have hpu : place sl u < n := by have := place_lt HS.out (x := u) (by simpa using hgp.1); have := HN.out; omega
              have hpv : place sl v < n := by have := place_lt HS.out (x := v) (by simpa using hgp.2); have := HN.out; omega
              have HKU := Lib.hid (fun h => hP.keep hx h)
              have HKV := Lib.hid (fun h1 h2 => hP.turn hx h1 h2)
              obtain ⟨pu, hpue⟩ : ∃ pu, place sl u = pu := ⟨_, rfl⟩
              obtain ⟨pv, hpve⟩ : ∃ pv, place sl v = pv := ⟨_, rfl⟩
              have HCU' := hC u hgp.1
              have HCV' := hC v hgp.2
              rw [hpue] at HCU' hpu HKU HKV
              rw [hpve] at HCV' hpv HKU HKV
              have HCU := Lib.hid HCU'
              have HCV := Lib.hid HCV'
              have HKK := Lib.hid hkk
              have HG := Lib.hid hG
              have j0 : (0 : Int) ≤ (k : Int) := by omega
              have j1 : (k : Int) < (R.length : Int) := by omega
              have j2 : (R.length : Int) ≤ 100000 := by omega
              have u0 : (0 : Int) ≤ (pu : Int) := by omega
              have u1 : (pu : Int) < (n : Int) := by omega
              have v0 : (0 : Int) ≤ (pv : Int) := by omega
              have v1 : (pv : Int) < (n : Int) := by omega
              clear hC hG hP hx hxx hgp hpue hpve HCU' HCV' hkk hk
              go_upto_region 12 with (fail)
              refine start_ (n := 18) (S := fun w' => w'.cell? ⟨gx, 0, none⟩ = some (.slice A n cg) ∧ w'.cell? ⟨gx, 1, none⟩ = some (.slice (some ⟨be, 0, none⟩) R.length ce) ∧ w'.cell? ⟨gx, 2, none⟩ = some (.int .i64 0) ∧ w'.cell? ⟨gx, 3, none⟩ = some (.int .i64 gw) ∧ w'.cell? ⟨be, k * 4 + 1, none⟩ = some (.int .i64 u) ∧ w'.cell? ⟨be, k * 4 + 2, none⟩ = some (.int .i64 v)) (ds := []) (bA 18 0) (by kernel_rfl) rfl rfl ⟨q0, q1, q2, q3, qu, qv⟩ (fun hHeld => ?_)
              refine with_tabW tb126_12.tab12 tb126_12.bits12 (fun HT_ HW_ => ?_)
              refine pw_ 1 41 (bA 18 2) HT_.out ?_
              refine pw_ 3 43 (bA 18 10) HT_.out ?_
              refine pw_ 9 49 (bA 18 522) HT_.out ?_
              refine pw_ 11 51 (bA 18 2570) HT_.out ?_
              refine tw_ 0 40 (bA 18 2571) HT_.out HW_.out hHeld (hv := by rintro w' ⟨s0, s1, s2, s3, s4, s5⟩; go_simp; with_reducible rfl) (h := ?_)
              refine tw_ 2 42 (bA 18 2575) HT_.out HW_.out hHeld (hv := by rintro w' ⟨s0, s1, s2, s3, s4, s5⟩; go_simp; with_reducible rfl) (h := ?_)
              refine pw_ 4 44 (bA 18 2591) HT_.out ?_
              refine pw_ 5 45 (bA 18 2623) HT_.out ?_
              refine tw_ 6 46 (bA 18 2687) HT_.out HW_.out hHeld (hv := by rintro w' ⟨s0, s1, s2, s3, s4, s5⟩; go_simp; with_reducible rfl) (h := ?_)
              refine tw_ 8 48 (bA 18 2943) HT_.out HW_.out hHeld (hv := by rintro w' ⟨s0, s1, s2, s3, s4, s5⟩; go_simp; with_reducible rfl) (h := ?_)
              refine tw_ 10 50 (bA 18 3967) HT_.out HW_.out hHeld (hv := by rintro w' ⟨s0, s1, s2, s3, s4, s5⟩; go_simp; with_reducible rfl) (h := ?_)
              refine pw_ 12 52 (bA 18 8063) HT_.out ?_
              refine pw_ 13 53 (bA 18 16255) HT_.out ?_
              refine tw_ 14 54 (bA 18 32639) HT_.out HW_.out hHeld (hv := by rintro w' ⟨s0, s1, s2, s3, s4, s5⟩; go_simp; with_reducible rfl) (h := ?_)
              refine one_ (i := 7) (N := some 47) (bA 18 32767) rfl rfl (one_of HT_.out (by kernel_rfl)) (by decide) (fun K hK => ?_)
              refine gw_ Tryz.func80 #[.agg #[.slice A n cg, .slice (some ⟨be, 0, none⟩) R.length ce, .int .i64 0, .int .i64 gw], .int .i64 u] ?_
              with_reducible refine ((HCU.out wr.drew (Below.refl _ _).drew)).mono ?_
              rintro e wa ⟨rfl, hb_wa⟩
              refine ⟨_, rfl, ?_⟩
              refine hK.out _ _ ⟨(keep_at hb_wa (show (wr.drew).cell? _ = _ from q0)), (keep_at hb_wa (show (wr.drew).cell? _ = _ from q1)), (keep_at hb_wa (show (wr.drew).cell? _ = _ from q2)), (keep_at hb_wa (show (wr.drew).cell? _ = _ from q3)), (keep_at hb_wa (show (wr.drew).cell? _ = _ from qu)), (keep_at hb_wa (show (wr.drew).cell? _ = _ from qv))⟩ (fun hHeld => ?_)
              clear hK K
              refine norm_ (a' := ?_) ?_ ?_
              rotate_left
              · show Act.put _ (some 47) _ = _
                simp only [Act.put, pA, pB, pC, pD, pE]; rfl
              refine one_ (i := 15) (N := some 55) (bA 18 65535) rfl rfl (one_of HT_.out (by kernel_rfl)) (by decide) (fun K hK => ?_)
              refine gw_ Tryz.func80 #[.agg #[.slice A n cg, .slice (some ⟨be, 0, none⟩) R.length ce, .int .i64 0, .int .i64 gw], .int .i64 v] ?_
              with_reducible refine ((HCV.out wa (Below.drewL hb_wa))).mono ?_
              rintro e wb ⟨rfl, hb_wb⟩
              refine ⟨_, rfl, ?_⟩
              refine hK.out _ _ ⟨(keep_at hb_wb (keep_at hb_wa (show (wr.drew).cell? _ = _ from q0))), (keep_at hb_wb (keep_at hb_wa (show (wr.drew).cell? _ = _ from q1))), (keep_at hb_wb (keep_at hb_wa (show (wr.drew).cell? _ = _ from q2))), (keep_at hb_wb (keep_at hb_wa (show (wr.drew).cell? _ = _ from q3))), (keep_at hb_wb (keep_at hb_wa (show (wr.drew).cell? _ = _ from qu))), (keep_at hb_wb (keep_at hb_wa (show (wr.drew).cell? _ = _ from qv)))⟩ (fun hHeld => ?_)
              clear hK K
              refine norm_ (a' := ?_) ?_ ?_
              rotate_left
              · show Act.put _ (some 55) _ = _
                simp only [Act.put, pA, pB, pC, pD, pE]; rfl
              refine pw_ 16 9 (bA 18 131071) HT_.out ?_
              refine pw_ 17 10 (bA 18 262143) HT_.out ?_
              refine done_ (done_of HT_.out (by kernel_rfl)) ?_
              clear hHeld HT_ HW_; clear q0 q1 q2 q3 qu qv HCU HCV
              have HG2 := Lib.hid (HG.out.below ((Below.drewL hb_wa).trans (hb_wb.mono (Below.drewL hb_wa).size)))
              clear hb_wa hb_wb HG
              obtain ⟨x1, hx1⟩ : ∃ x1, rb'[pu]? = some x1 := ⟨_, List.getElem?_eq_getElem (by rw [HG2.out.len]; exact hpu)⟩
              obtain ⟨x2, hx2⟩ : ∃ x2, rb'[pv]? = some x2 := ⟨_, List.getElem?_eq_getElem (by rw [HG2.out.len]; exact hpv)⟩
              have cu := HG2.out.i.cell pu (bls_at _ hx1)
              have cv := HG2.out.i.cell pv (bls_at _ hx2)
              have hfr := HG2.out.i.free pv
              cases x1 with
              | false =>
                have HP2 := Lib.hid (HKU.out (fun h => by rw [hx1] at h; cases h))
                clear hx1 hx2 HKU HKV
                go_wp2
                go_roundg k1
                case measure => have := HKK.out; omega
                case rel => exact ⟨k + 1, again, rb', rfl, by go_num, Lib.hid ⟨by have := HKK.out; omega, HG2.out, HP2.out⟩⟩
              | true =>
                cases x2 with
                | true =>
                  have HP2 := Lib.hid (HKU.out (fun _ => hx2))
                  clear hx1 hx2 HKU HKV
                  go_wp2
                  go_roundg k1
                  case measure => have := HKK.out; omega
                  case rel => exact ⟨k + 1, again, rb', rfl, by go_num, Lib.hid ⟨by have := HKK.out; omega, HG2.out, HP2.out⟩⟩
                | false =>
                  have HP2 := Lib.hid (HKV.out hx1 hx2)
                  have HG3 := Lib.hid (HG2.out.set pv true)
                  clear hx1 hx2 HKU HKV HG2
                  go_wp2
                  go_roundg k1
                  case measure => have := HKK.out; omega
                  case rel => exact ⟨k + 1, true, rb'.set pv true, rfl, by go_num, Lib.hid ⟨by have := HKK.out; omega, HG3.out, HP2.out⟩⟩
            · obtain rfl : k = R.length := by omega
              have HG := Lib.hid hG
              have HP := Lib.hid hP
              clear hG hP hkk hk
              go_wp2
              go_roundg (if again = true then rb'.count false + 1 else 0)
              case measure =>
                cases again with
                | true => have := HP.out.yes rfl; rw [if_pos rfl]; omega
                | false => rw [if_neg (by decide)]; omega
              case rel => exact ⟨again, rb', rfl, Lib.hid ⟨HG.out, HP.out.snd, fun h => (HP.out.no h).2, rfl⟩⟩

end Go.Proofs.YtgihncjllelonaaGreat.Lw

/- Rows of numbers that lie apart, each its own; a list of their slices beside them. -/
namespace Go.Proofs.YtgihncjllelonaaGreat.Lw
open Go Go.RowKit Go.Proofs.YtgihncjllelonaaGreat.Mem Go.Proofs.YtgihncjllelonaaGreat.Sl Go.Proofs.YtgihncjllelonaaGreat.Scc Go.Proofs.YtgihncjllelonaaGreat.Tj Go.Proofs.YtgihncjllelonaaGreatW.PrintWords Go.Proofs.YtgihncjllelonaaGreatW.PrintLast
set_option linter.unusedSimpArgs false
set_option linter.unusedVariables false

structure Rz (w : World) (base : Nat) (vals : List Value) (ls : List (List Int)) : Prop where
  ln : vals.length = ls.length
  own : ∀ (i : Nat) (v : Value) (r : List Int), vals[i]? = some v → ls[i]? = some r → w.ownsRow base 3 1 v r.length (ints r)
  apart : ∀ (i j : Nat) (v u : Value), i ≠ j → vals[i]? = some v → vals[j]? = some u → v.ownBlock = none ∨ v.ownBlock ≠ u.ownBlock

theorem own_types {w : World} {b1 b2 : Nat} {e1 e2 : TypeId} {s1 s2 n1 n2 : Nat} {v1 v2 : Value} {x1 x2 : List Value} (h1 : w.ownsRow b1 e1 s1 v1 n1 x1) (h2 : w.ownsRow b2 e2 s2 v2 n2 x2) (hne : e1 ≠ e2) : v1.ownBlock = none ∨ v1.ownBlock ≠ v2.ownBlock := by
  rcases h1.2 with ⟨rfl, _⟩ | ⟨g, cap, cur, rfl, _, hg, _⟩
  · exact .inl rfl
  · right
    intro he
    rcases h2.2 with ⟨rfl, _⟩ | ⟨g2, cap2, cur2, rfl, _, hg2, _⟩
    · simp [Value.ownBlock] at he
    · simp only [Value.ownBlock, Option.some.injEq] at he
      subst he
      rw [hg] at hg2
      cases hg2
      exact hne rfl

section
variable {w w' : World} {base : Nat} {vals : List Value} {ls : List (List Int)}
theorem Rz.below (h : Rz w base vals ls) (hb : Below w.heap.size w w') : Rz w' base vals ls := ⟨h.ln, fun i v r h1 h2 => own_below (h.own i v r h1 h2) hb, h.apart⟩
theorem Rz.mono {base' : Nat} (h : Rz w base vals ls) (hb : base' ≤ base) : Rz w base' vals ls := ⟨h.ln, fun i v r h1 h2 => own_mono (h.own i v r h1 h2) hb, h.apart⟩
theorem Rz.of_rows {bo n : Nat} (h : RwsI w base bo n vals ls) : Rz w base vals ls := ⟨h.lv.trans h.lo.symm, h.own, h.apart⟩
theorem Rz.nil : Rz w base [] [] := ⟨rfl, fun i v r h => by simp at h, fun i j v u _ h => by simp at h⟩

theorem Rz.snoc {B : Nat} {v : Value} {r : List Int} (h : Rz w base vals ls) (hb : Below w.heap.size w w') (hB : w.heap.size ≤ B) (hbase : base ≤ w.heap.size) (ho : w'.ownsRow B 3 1 v r.length (ints r)) : Rz w' base (vals ++ [v]) (ls ++ [r]) := by
  have h' := h.below hb
  have hold : ∀ (i : Nat) (u : Value), vals[i]? = some u → u.ownBlock = none ∨ (u.ownBlock ≠ v.ownBlock ∧ v.ownBlock ≠ u.ownBlock) := by
    intro i u hu
    cases hk : u.ownBlock with
    | none => exact .inl rfl
    | some k =>
      right
      have hi : i < ls.length := by rw [← h.ln]; exact (List.getElem?_eq_some_iff.1 hu).1
      have := ((h.own i u _ hu (List.getElem?_eq_getElem hi)).lt k hk).2
      constructor <;> intro he
      · have := (ho.lt k he.symm).1; omega
      · have := (ho.lt k he).1; omega
  refine ⟨by simp [h.ln], fun i u r' h1 h2 => ?_, fun i j u u' hne h1 h2 => ?_⟩
  · rcases Nat.lt_or_ge i vals.length with hi | hi
    · rw [List.getElem?_append_left hi] at h1
      rw [List.getElem?_append_left (by rw [← h.ln]; exact hi)] at h2
      exact h'.own i u r' h1 h2
    · rw [List.getElem?_append_right hi] at h1
      rw [List.getElem?_append_right (by rw [← h.ln]; exact hi), ← h.ln] at h2
      have hi0 : i - vals.length = 0 := by
        have := (List.getElem?_eq_some_iff.1 h1).1
        simp at this
        omega
      rw [hi0] at h1 h2
      cases h1
      cases h2
      exact own_mono ho (by omega)
  · rcases Nat.lt_or_ge i vals.length with hi | hi <;> rcases Nat.lt_or_ge j vals.length with hj | hj
    · rw [List.getElem?_append_left hi] at h1
      rw [List.getElem?_append_left hj] at h2
      exact h.apart i j u u' hne h1 h2
    · rw [List.getElem?_append_left hi] at h1
      rw [List.getElem?_append_right hj] at h2
      have hj0 : j - vals.length = 0 := by
        have := (List.getElem?_eq_some_iff.1 h2).1
        simp at this
        omega
      rw [hj0] at h2
      cases h2
      exact (hold i u h1).imp id And.left
    · rw [List.getElem?_append_right hi] at h1
      rw [List.getElem?_append_left hj] at h2
      have hi0 : i - vals.length = 0 := by
        have := (List.getElem?_eq_some_iff.1 h1).1
        simp at this
        omega
      rw [hi0] at h1
      cases h1
      rcases hold j u' h2 with hn | hn
      · cases hv : v.ownBlock with
        | none => exact .inl rfl
        | some k => right; rw [hn]; simp
      · exact .inr hn.2
    · have e1 := (List.getElem?_eq_some_iff.1 h1).1
      have e2 := (List.getElem?_eq_some_iff.1 h2).1
      simp at e1 e2
      omega

theorem Rz.turn {i : Nat} {v v' : Value} {r' : List Int} (h : Rz w base vals ls) (hv : vals[i]? = some v) (hg : w.grownBy w' v.ownBlock) (ho : w'.ownsRow base 3 1 v' r'.length (ints r')) (hat : v'.ownBlock = v.ownBlock ∨ v'.ownBlock = some w.heap.size) : Rz w' base (vals.set i v') (ls.set i r') := by
  have hi : i < vals.length := (List.getElem?_eq_some_iff.1 hv).1
  have hil : i < ls.length := by rw [← h.ln]; exact hi
  refine ⟨by simp [h.ln], fun j u r h1 h2 => ?_, fun j k u u' hne h1 h2 => ?_⟩
  · by_cases hji : j = i
    · subst hji
      rw [List.getElem?_set_self hi] at h1
      rw [List.getElem?_set_self hil] at h2
      cases h1
      cases h2
      exact ho
    · rw [List.getElem?_set_ne (Ne.symm hji)] at h1 h2
      exact (h.own j u r h1 h2).kept hg (h.apart j i u v hji h1 hv)
  · have key : ∀ (j : Nat) (u : Value), j ≠ i → vals[j]? = some u → (u.ownBlock = none ∨ u.ownBlock ≠ v'.ownBlock) ∧ (v'.ownBlock = none ∨ v'.ownBlock ≠ u.ownBlock) := by
      intro j u hj hu
      have hjl : j < ls.length := by rw [← h.ln]; exact (List.getElem?_eq_some_iff.1 hu).1
      have ho2 := h.own j u _ hu (List.getElem?_eq_getElem hjl)
      rcases hat with hat | hat
      · rw [hat]
        exact ⟨h.apart j i u v hj hu hv, h.apart i j v u (Ne.symm hj) hv hu⟩
      · rw [hat]
        have hlt : ∀ m, u.ownBlock = some m → m < w.heap.size := fun m hm => (ho2.lt m hm).2
        refine ⟨?_, ?_⟩
        · cases hu' : u.ownBlock with
          | none => exact .inl rfl
          | some m => right; intro he; cases he; have := hlt _ hu'; omega
        · right
          intro he
          have := hlt _ he.symm
          omega
    by_cases hji : j = i
    · subst hji
      rw [List.getElem?_set_self hi] at h1
      cases h1
      rw [List.getElem?_set_ne hne] at h2
      exact (key k u' (Ne.symm hne) h2).2
    · rw [List.getElem?_set_ne (Ne.symm hji)] at h1
      by_cases hki : k = i
      · subst hki
        rw [List.getElem?_set_self hi] at h2
        cases h2
        exact (key j u hji h1).1
      · rw [List.getElem?_set_ne (Ne.symm hki)] at h2
        exact h.apart j k u u' hne h1 h2

theorem Rz.other {b n s : Nat} {T : TypeId} {v : Value} {xs : List Value} (h : Rz w base vals ls) (ho : w.ownsRow b T s v n xs) (hne : 3 ≠ T) (hg : w.grownBy w' v.ownBlock) : Rz w' base vals ls :=
  ⟨h.ln, fun i u r h1 h2 => (h.own i u r h1 h2).kept hg (own_types (h.own i u r h1 h2) ho hne), h.apart⟩

theorem Two.other {w0 : World} {T1 T2 : TypeId} {s1 s2 n1 n2 : Nat} {v1 v2 : Value} {x1 x2 : List Value} {b s n : Nat} {v : Value} {xs : List Value} (h : Two w0 T1 s1 v1 n1 x1 T2 s2 v2 n2 x2 w) (ho : w.ownsRow b 3 s v n xs) (hb : w0.heap.size ≤ b) (hn1 : T1 ≠ 3) (hn2 : T2 ≠ 3) (hg : w.grownBy w' v.ownBlock) :
    Two w0 T1 s1 v1 n1 x1 T2 s2 v2 n2 x2 w' :=
  ⟨h.r1.kept hg (own_types h.r1 ho hn1), h.r2.kept hg (own_types h.r2 ho hn2), h.ne, h.b.grown hg h.b.size fun k hk => Nat.le_trans hb (ho.lt k hk).1⟩
theorem One.other {w0 : World} {T1 : TypeId} {s1 n1 : Nat} {v1 : Value} {x1 : List Value} {b s n : Nat} {v : Value} {xs : List Value} (h : One w0 T1 s1 v1 n1 x1 w) (ho : w.ownsRow b 3 s v n xs) (hb : w0.heap.size ≤ b) (hn1 : T1 ≠ 3) (hg : w.grownBy w' v.ownBlock) : One w0 T1 s1 v1 n1 x1 w' :=
  ⟨h.r.kept hg (own_types h.r ho hn1), h.b.grown hg h.b.size fun k hk => Nat.le_trans hb (ho.lt k hk).1⟩

theorem Rz.rd (h : Rz w base vals ls) {i : Nat} {v : Value} {r : List Int} (h1 : vals[i]? = some v) (h2 : ls[i]? = some r) : ∃ A c, v = .slice A r.length c ∧ RdI w A r := by
  have ho := h.own i v r h1 h2
  obtain ⟨A, c, rfl⟩ := own_slice ho
  exact ⟨A, c, rfl, (RdI.of_own ho).1⟩
end

theorem set_same {α : Type} {a : List α} {i : Nat} {x : α} (h : a[i]? = some x) : a.set i x = a := by
  obtain ⟨hi, rfl⟩ := List.getElem?_eq_some_iff.1 h
  exact List.set_getElem_self hi

end Go.Proofs.YtgihncjllelonaaGreat.Lw

/- The references' Closure, walked. -/
namespace Go.Proofs.YtgihncjllelonaaGreat.Lw
open Go Go.RowKit Go.Proofs.YtgihncjllelonaaGreat.Mem Go.Proofs.YtgihncjllelonaaGreat.Sl Go.Proofs.YtgihncjllelonaaGreat.Scc Go.Proofs.YtgihncjllelonaaGreat.Tj Go.Proofs.YtgihncjllelonaaGreatW.PrintWords Go.Proofs.YtgihncjllelonaaGreatW.PrintLast
attribute [local go_sem ↓] Go.wp_at_zero Go.wp_at_succ
set_option linter.unusedSimpArgs false
set_option linter.unusedVariables false

open Classical in
noncomputable def rB (E : Nat → Nat → Prop) (i x : Nat) : Bool := decide (Rch E i x)
def RdC (w : World) (A : Option Addr) (n : Nat) (E : Nat → Nat → Prop) : Prop := ∀ i, i < n → ∃ b B cB, A = some ⟨b, 0, none⟩ ∧ w.cell? ⟨b, i, none⟩ = some (.slice (some ⟨B, 0, none⟩) n cB) ∧ ∀ x, x < n → w.cell? ⟨B, x, none⟩ = some (.bool (rB E i x))
theorem RdC.below {w w' : World} {A : Option Addr} {n : Nat} {E : Nat → Nat → Prop} (h : RdC w A n E) (hb : Below w.heap.size w w') : RdC w' A n E := fun i hi => by
  obtain ⟨b, B, cB, h1, h2, h3⟩ := h i hi
  exact ⟨b, B, cB, h1, keep_at hb h2, fun x hx => keep_at hb (h3 x hx)⟩

end Go.Proofs.YtgihncjllelonaaGreat.Lw

/- Plain: the components that Of answers, told by mutual reach; their heads rise. -/
namespace Go.Proofs.YtgihncjllelonaaGreat.Ce
open Go.Proofs.YtgihncjllelonaaGreat.Tj Go.Proofs.YtgihncjllelonaaGreat.Sl Go.Proofs.YtgihncjllelonaaGreat.Lw
set_option linter.unusedVariables false

theorem getD_of {α : Type} {l : List α} {i : Nat} {x d : α} (h : l[i]? = some x) : l.getD i d = x := by rw [List.getD_eq_getElem?_getD, h]; rfl
end Go.Proofs.YtgihncjllelonaaGreat.Ce

/- Plain: a list of lists is the components. -/
namespace Go.Proofs.YtgihncjllelonaaGreat.Ce
open Go Go.Proofs.YtgihncjllelonaaGreat.Tj Go.Proofs.YtgihncjllelonaaGreat.Sl Go.Proofs.YtgihncjllelonaaGreat.Lw
set_option linter.unusedVariables false

def PartsOk (code : Nat) (gs comps : List (List Int)) : Prop := code = 0 ∧ comps.length = gs.length ∧ (comps.map sorted).Perm gs
end Go.Proofs.YtgihncjllelonaaGreat.Ce
