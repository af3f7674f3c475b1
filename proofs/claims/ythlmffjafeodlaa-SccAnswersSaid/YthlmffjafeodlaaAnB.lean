/- The references' Reached, walked. -/
import Derived.Test.YthlmffjafeodlaaAnA
import Derived.Test.YthlmffjafeodlaaRz
import Derived.Test.YthlmffjafeodlaaOrd
namespace Go.Proofs.Ythlmffjafeodlaa.Lw
open Go Go.RowKit Go.Proofs.Ythlmffjafeodlaa.Mem Go.Proofs.Ythlmffjafeodlaa.Sl Go.Proofs.Ythlmffjafeodlaa.Scc Go.Proofs.Ythlmffjafeodlaa.Tj Go.Proofs.YthlmffjafeodlaaW.PrintWords Go.Proofs.YthlmffjafeodlaaW.PrintLast
attribute [local go_sem ↓] Go.wp_at_zero Go.wp_at_succ
set_option linter.unusedSimpArgs false
set_option linter.unusedVariables false

theorem count_set_lt : ∀ (l : List Bool) (i : Nat), l[i]? = some false → (l.set i true).count false < l.count false
  | [], i, h => by simp at h
  | b :: r, 0, h => by
    have : b = false := by simpa using h
    subst this
    simp
  | b :: r, i + 1, h => by
    have := count_set_lt r i (by simpa using h)
    simp only [List.set_cons_succ, List.count_cons]
    omega

/-- Who is told to be reached, is. -/
def Snd (E : Nat → Nat → Prop) (i0 : Nat) (rb : List Bool) : Prop := rb[i0]? = some true ∧ ∀ x : Nat, rb[x]? = some true → Rch E i0 x
/-- The first k arcs lead to nobody new. -/
def Cls (sl : List Int) (R : List (Int × Int)) (k : Nat) (rb : List Bool) : Prop := ∀ p ∈ R.take k, rb[place sl p.1]? = some true → rb[place sl p.2]? = some true

theorem reached_all {sl : List Int} {R : List (Int × Int)} {i0 : Nat} {rb : List Bool} (hs : Snd (PE sl R) i0 rb) (hc : Cls sl R R.length rb) (x : Nat) : rb[x]? = some true ↔ Rch (PE sl R) i0 x := by
  refine ⟨hs.2 x, fun h => ?_⟩
  induction h with
  | refl => exact hs.1
  | step _ he ih =>
    obtain ⟨p, hp, h1, h2⟩ := he
    have := hc p (by rw [List.take_length]; exact hp) (by rw [h1]; exact ih)
    rw [h2] at this
    exact this

/-- Amid a pass. -/
structure Pass (sl : List Int) (R : List (Int × Int)) (i0 k : Nat) (rb0 rb : List Bool) (again : Bool) : Prop where
  snd : Snd (PE sl R) i0 rb
  len : rb.length = rb0.length
  no : again = false → rb = rb0 ∧ Cls sl R k rb
  yes : again = true → rb.count false < rb0.count false

theorem Pass.keep {sl : List Int} {R : List (Int × Int)} {i0 k : Nat} {rb0 rb : List Bool} {again : Bool} {u v : Int} (h : Pass sl R i0 k rb0 rb again) (hx : R[k]? = some (u, v)) (hk : rb[place sl u]? = some true → rb[place sl v]? = some true) : Pass sl R i0 (k + 1) rb0 rb again := by
  refine ⟨h.snd, h.len, fun ha => ⟨(h.no ha).1, fun p hp => ?_⟩, h.yes⟩
  rw [List.take_add_one, hx] at hp
  rcases List.mem_append.1 hp with hp | hp
  · exact (h.no ha).2 p hp
  · have : p = (u, v) := by simpa using hp
    subst this
    exact hk
theorem Pass.turn {sl : List Int} {R : List (Int × Int)} {i0 k : Nat} {rb0 rb : List Bool} {again : Bool} {u v : Int} (h : Pass sl R i0 k rb0 rb again) (hx : R[k]? = some (u, v)) (hu : rb[place sl u]? = some true) (hv : rb[place sl v]? = some false) : Pass sl R i0 (k + 1) rb0 (rb.set (place sl v) true) true := by
  have hvl : place sl v < rb.length := (List.getElem?_eq_some_iff.1 hv).1
  have hlt := count_set_lt rb (place sl v) hv
  refine ⟨⟨?_, fun x hx2 => ?_⟩, by rw [List.length_set]; exact h.len, fun ha => (by cases ha), fun _ => ?_⟩
  · by_cases he : i0 = place sl v
    · rw [← he] at hv
      rw [h.snd.1] at hv
      cases hv
    · rw [List.getElem?_set_ne (Ne.symm he)]
      exact h.snd.1
  · by_cases he : x = place sl v
    · subst he
      exact .step (h.snd.2 _ hu) ⟨(u, v), List.mem_of_getElem? hx, rfl, rfl⟩
    · rw [List.getElem?_set_ne (Ne.symm he)] at hx2
      exact h.snd.2 x hx2
  · cases again with
    | true => have := h.yes rfl; omega
    | false => have := (h.no rfl).1; rw [this] at hlt; rw [this]; exact hlt

theorem plI_pos {sl : List Int} {v : Int} (h : sl.contains v = true) : plI sl v = ((place sl v : Nat) : Int) := by
  unfold plI
  rw [if_pos h]

structure RSt (w : World) (gx gi : Nat) (A : Option Addr) (n cg : Nat) (AE : Option Addr) (m ce : Nat) (rb : List Bool) (W : World) : Prop where
  x : At W gx [.slice A n cg, .slice AE m ce, .int .i64 0, .int .i64 0] 44
  i : At W gi (bls rb) 4
  ne : gx ≠ gi
  hx : w.heap.size ≤ gx
  hi : w.heap.size ≤ gi
  b : Below w.heap.size w W
  len : rb.length = n
section
variable {w W W' : World} {gx gi n cg m ce : Nat} {A AE : Option Addr} {rb : List Bool}
theorem RSt.below (h : RSt w gx gi A n cg AE m ce rb W) (hb : Below W.heap.size W W') : RSt w gx gi A n cg AE m ce rb W' := ⟨h.x.below hb h.x.lt, h.i.below hb h.i.lt, h.ne, h.hx, h.hi, h.b.trans (hb.mono h.b.size), h.len⟩
theorem RSt.set (h : RSt w gx gi A n cg AE m ce rb W) (j : Nat) (y : Bool) : RSt w gx gi A n cg AE m ce (rb.set j y) (W.setCell ⟨gi, j, none⟩ (.bool y)) :=
  ⟨h.x.off h.ne, h.i.put (bls_set _ _ _).symm, h.ne, h.hx, h.hi, h.b.setCell h.hi _, by rw [List.length_set]; exact h.len⟩
end
theorem zero_set {a : List Bool} {i n : Nat} {y : Bool} (ha : a.length = i) (hi : i < n) : (a ++ List.replicate (n - i) false).set i y = (a ++ [y]) ++ List.replicate (n - (i + 1)) false := by
  obtain ⟨k, hk⟩ : ∃ k, n - i = k + 1 := ⟨n - i - 1, by omega⟩
  rw [hk, show n - (i + 1) = k by omega, List.replicate_succ, List.set_append, if_neg (by omega), ha, Nat.sub_self, List.set_cons_zero, List.append_assoc]
  rfl

def tb40_12.T12 : Bool × List (List Nat × List Nat) := (true, [([], []), ([], []), ([1], [1]), ([], []), ([2, 3], [2, 3]), ([4], [4]), ([5], [5]), ([0, 6], [0, 6]), ([], []), ([], []), ([9], [9]), ([], []), ([10, 11], [10, 11]), ([12], [12]), ([13], [13]), ([8, 14, 7], [8, 14]), ([7, 15, 0, 1, 2, 3, 4, 5, 6, 7], [7]), ([15, 16, 0, 1, 2, 3, 4, 5, 6, 7, 8, 9, 10, 11, 12, 13, 14, 15, 16], [15])])
def tb40_12.B12 : List Nat := [0, 0, 2, 0, 14, 30, 62, 127, 0, 0, 512, 0, 3584, 7680, 15872, 32767, 65535, 131071]
theorem tb40_12.tab12 : rtab .any (opsOf Try.f40 12) = tb40_12.T12 := by kernel_rfl
theorem tb40_12.bits12 : waitsOk tb40_12.T12.2 tb40_12.B12 = true := by kernel_rfl
set_option maxHeartbeats 8000000 in
set_option maxRecDepth 100000 in
theorem reached_calls (w : World) (A AE : Option Addr) (cg ce i0 : Nat) (sl : List Int) (R : List (Int × Int)) (s : Int) (hv : RdI w A sl) (he : RdE w AE R) (hs : sl.Pairwise (· < ·)) (hgood : good sl R = true) (h0 : sl[i0]? = some s) (hl : sl.length ≤ 1000) (hr : R.length ≤ 100000) :
    Calls Try.prog 40 #[gV A sl.length cg (.slice AE R.length ce), .int .i64 s] w fun e w' => ∃ v rb, e = .returned v ∧ One w 4 1 v sl.length (bls rb) w' ∧ rb.length = sl.length ∧ ∀ x : Nat, rb[x]? = some true ↔ Rch (PE sl R) i0 x := by
  obtain ⟨n, hn⟩ : ∃ n, sl.length = n := ⟨_, rfl⟩
  rw [hn] at hl ⊢
  have HV := Lib.hid hv
  have HE := Lib.hid he
  have HS := Lib.hid hs
  have HGD := Lib.hid hgood
  have H0 := Lib.hid h0
  have HN := Lib.hid hn
  clear hv he hs hgood h0 hn
  unfold gV
  have hm1 := fun wx => run_make_row' (P := Try.prog) 69 4 (.bool false) 1 Try.underlying69 info_bool rfl .i64 .i64 n (by omega) (by omega) wx
  go_enter Try.func40, Try.ntmps40
  go_wp2_with fail
  clear hm1
  refine gen_loopw (fun W => RSt w w.heap.size (w.heap.size + 1) A n cg AE R.length ce (List.replicate n false) W) ?_ ?_
  · exact ⟨(At.made rfl rfl).al, At.made (by simp) (by rw [toList_madeCells_one]; simp [bls]), by omega, Nat.le_refl _, by omega, ((Below.refl _ _).alloc (Nat.le_refl _) _).alloc (by simp) _, by simp⟩
  obtain ⟨gx, hgx⟩ : ∃ gx, w.heap.size = gx := ⟨_, rfl⟩
  obtain ⟨gi, hgi⟩ : ∃ gi, w.heap.size + 1 = gi := ⟨_, rfl⟩
  rw [hgi, hgx]
  clear hgx hgi
  intro w3 hG
  have HG3 := Lib.hid hG
  clear hG
  go_loopg [6] n (fun kq v6 w' => ∃ i : Nat, v6 = .int .i64 (i : Int) ∧ Hid (i + kq = n ∧ RSt w gx gi A n cg AE R.length ce ((sl.take i).map (fun x => x == s) ++ List.replicate (n - i) false) w'))
  case atStart => exact ⟨0, rfl, Lib.hid ⟨by omega, by simpa using HG3.out⟩⟩
  case round =>
    clear HG3
    obtain ⟨i, rfl, hI⟩ := hrel
    obtain ⟨hik, hG⟩ := hI.out
    clear hI
    by_cases hi : i < n
    · obtain ⟨k1, rfl⟩ : ∃ k1, gk = k1 + 1 := ⟨gk - 1, by omega⟩
      obtain ⟨x, hx⟩ : ∃ x, sl[i]? = some x := ⟨_, List.getElem?_eq_getElem (by have := HN.out; omega)⟩
      obtain ⟨b, rfl, cx⟩ := (HV.out.below hG.b) i x hx
      have q0 := hG.x.cell 0 rfl
      obtain ⟨x0, hx0⟩ : ∃ x0, wr.cell? ⟨gi, i, none⟩ = some x0 := ⟨_, hG.i.cell i (List.getElem?_eq_getElem (by rw [bls_length, hG.len]; exact hi))⟩
      have hfr := hG.i.free i
      have hset := hG.set i (x == s)
      have htk : (sl.take (i + 1)).map (fun x => x == s) = (sl.take i).map (fun x => x == s) ++ [x == s] := by rw [List.take_add_one, hx]; simp
      rw [zero_set (by rw [List.length_map, List.length_take]; have := HN.out; omega) hi, ← htk] at hset
      have HSET := Lib.hid hset
      have HIK := Lib.hid hik
      have j0 : (0 : Int) ≤ (i : Int) := by omega
      have j1 : (i : Int) < (n : Int) := by omega
      have j2 : (n : Int) ≤ 1000 := by omega
      clear hG hset htk hx hik hi
      go_wp2
      go_roundg k1
      case measure => have := HIK.out; omega
      case rel => exact ⟨i + 1, by go_num, Lib.hid ⟨by have := HIK.out; omega, HSET.out⟩⟩
    · obtain rfl : n = i := by omega
      rw [List.take_of_length_le (by have := HN.out; omega), Nat.sub_self, List.replicate_zero, List.append_nil] at hG
      obtain ⟨rb1, hrb1⟩ : ∃ rb1, sl.map (fun x => x == s) = rb1 := ⟨_, rfl⟩
      rw [hrb1] at hG
      have hsnd : Snd (PE sl R) i0 rb1 := by
        rw [← hrb1]
        refine ⟨by rw [List.getElem?_map, H0.out]; simp, fun x hx => ?_⟩
        rw [List.getElem?_map] at hx
        cases hsx : sl[x]? with
        | none => rw [hsx] at hx; cases hx
        | some y =>
          rw [hsx] at hx
          have hys : y = s := by simpa using hx
          subst hys
          obtain ⟨a1, a2⟩ := List.getElem?_eq_some_iff.1 hsx
          obtain ⟨b1, b2⟩ := List.getElem?_eq_some_iff.1 H0.out
          have : x = i0 := by
            rcases Nat.lt_trichotomy x i0 with h | h | h
            · have := List.pairwise_iff_getElem.1 HS.out x i0 a1 b1 h; omega
            · exact h
            · have := List.pairwise_iff_getElem.1 HS.out i0 x b1 a1 h; omega
          subst this
          exact .refl _
      have HG1 := Lib.hid hG
      have HSN := Lib.hid hsnd
      have q0 := hG.x.cell 0 rfl
      clear hG hsnd hrb1 hik hi
      go_wp2_with fail
      clear q0
      go_loopg [7] (rb1.count false + 1) (fun kq v7 w' => ∃ (again : Bool) (rb : List Bool), v7 = .bool again ∧ Hid (RSt w gx gi A n cg AE R.length ce rb w' ∧ Snd (PE sl R) i0 rb ∧ (again = false → Cls sl R R.length rb) ∧ kq = if again = true then rb.count false + 1 else 0))
      case atStart => exact ⟨true, rb1, rfl, Lib.hid ⟨HG1.out, HSN.out, fun h => (by cases h), by rw [if_pos rfl]⟩⟩
      case round =>
        clear HG1 HSN
        obtain ⟨again, rb, rfl, hI⟩ := hrel
        obtain ⟨hG, hsn, hcl, hkq⟩ := hI.out
        clear hI
        cases again with
        | false =>
          have HG := Lib.hid hG
          have HALL := Lib.hid (reached_all hsn (hcl rfl))
          clear hG hsn hcl hkq
          go_wp2
          go_ret
          refine ⟨_, rb, rfl, ⟨?_, HG.out.b⟩, HG.out.len, HALL.out⟩
          have h := HG.out
          refine ⟨by rw [bls_length, h.len, Nat.mul_one], .inr ⟨gi, n, (bls rb).toArray, rfl, h.hi, h.i, Nat.le_refl _, by unfold maxLen; omega, by rw [List.size_toArray, bls_length, h.len, Nat.mul_one], ?_⟩⟩
          rw [List.take_of_length_le (by rw [bls_length, h.len, Nat.mul_one]; exact Nat.le_refl _)]
        | true =>
          rw [if_pos rfl] at hkq
          subst hkq
          have HG := Lib.hid hG
          have HSN := Lib.hid hsn
          clear hG hsn hcl
          go_wp2_with fail
          go_loopg [7, 8] R.length (fun kq v7 v8 w' => ∃ (k : Nat) (again : Bool) (rb' : List Bool), v7 = .bool again ∧ v8 = .int .i64 (k : Int) ∧ Hid (k + kq = R.length ∧ RSt w gx gi A n cg AE R.length ce rb' w' ∧ Pass sl R i0 k rb rb' again))
          case atStart => exact ⟨0, false, rb, rfl, rfl, Lib.hid ⟨by omega, HG.out, ⟨HSN.out, rfl, fun _ => ⟨rfl, fun p hp => by simp at hp⟩, fun h => (by cases h)⟩⟩⟩
          case round =>
            clear HG HSN
            obtain ⟨k, again, rb', rfl, rfl, hI⟩ := hrel
            obtain ⟨hkk, hG, hP⟩ := hI.out
            clear hI
            have q1 := hG.x.cell 1 rfl
            by_cases hk : k < R.length
            · obtain ⟨k1, rfl⟩ : ∃ k1, gk = k1 + 1 := ⟨gk - 1, by omega⟩
              obtain ⟨⟨u, v⟩, hxx⟩ : ∃ x, R[k] = x := ⟨_, rfl⟩
              have hx : R[k]? = some (u, v) := by rw [List.getElem?_eq_getElem hk, hxx]
              obtain ⟨be, rfl, qu, qv⟩ := (HE.out.below hG.b) k u v hx
              have q0 := hG.x.cell 0 rfl
              have q2 := hG.x.cell 2 rfl
              have q3 := hG.x.cell 3 rfl
              have hgp := good_iff.1 HGD.out _ (List.mem_of_getElem? hx)
              have hC : ∀ (x : Int), sl.contains x = true → ∀ (W : World), Below wr.heap.size wr W → Calls Try.prog 29 #[.agg #[.slice A n cg, .slice (some ⟨be, 0, none⟩) R.length ce, .int .i64 0, .int .i64 0], .int .i64 x] W fun e w' => e = .returned (.int .i64 ((place sl x : Nat) : Int)) ∧ Below W.heap.size W w' := fun x hcx W hW => by
                have := place_calls W A (some ⟨be, 0, none⟩) cg R.length ce sl x ((HV.out.below hG.b).below hW) HS.out (by rw [HN.out]; omega)
                rw [HN.out, plI_pos hcx] at this
                exact this
              have hpu : place sl u < n := by have := place_lt HS.out (x := u) (by simpa using hgp.1); have := HN.out; omega
              have hpv : place sl v < n := by have := place_lt HS.out (x := v) (by simpa using hgp.2); have := HN.out; omega
              have HKU := Lib.hid (fun h => hP.keep hx h)
              have HKV := Lib.hid (fun h1 h2 => hP.turn hx h1 h2)
              obtain ⟨pu, hpue⟩ : ∃ pu, place sl u = pu := ⟨_, rfl⟩
              obtain ⟨pv, hpve⟩ : ∃ pv, place sl v = pv := ⟨_, rfl⟩
              have HCU' := hC u hgp.1
              have HCV' := hC v hgp.2
              rw [hpue] at HCU' hpu HKU HKV
              rw [hpve] at HCV' hpv HKU HKV
              have HCU := Lib.hid HCU'
              have HCV := Lib.hid HCV'
              have HKK := Lib.hid hkk
              have HG := Lib.hid hG
              have j0 : (0 : Int) ≤ (k : Int) := by omega
              have j1 : (k : Int) < (R.length : Int) := by omega
              have j2 : (R.length : Int) ≤ 100000 := by omega
              have u0 : (0 : Int) ≤ (pu : Int) := by omega
              have u1 : (pu : Int) < (n : Int) := by omega
              have v0 : (0 : Int) ≤ (pv : Int) := by omega
              have v1 : (pv : Int) < (n : Int) := by omega
              clear hC hG hP hx hxx hgp hpue hpve HCU' HCV' hkk hk
              go_upto_region 12 with (fail)
              refine start_ (n := 18) (S := fun w' => w'.cell? ⟨gx, 0, none⟩ = some (.slice A n cg) ∧ w'.cell? ⟨gx, 1, none⟩ = some (.slice (some ⟨be, 0, none⟩) R.length ce) ∧ w'.cell? ⟨gx, 2, none⟩ = some (.int .i64 0) ∧ w'.cell? ⟨gx, 3, none⟩ = some (.int .i64 0) ∧ w'.cell? ⟨be, k * 4 + 1, none⟩ = some (.int .i64 u) ∧ w'.cell? ⟨be, k * 4 + 2, none⟩ = some (.int .i64 v)) (ds := []) #[false, false, false, false, false, false, false, false, false, false, false, false, false, false, false, false, false, false] (by kernel_rfl) rfl rfl ⟨q0, q1, q2, q3, qu, qv⟩ (fun hHeld => ?_)
              refine with_tabW tb40_12.tab12 tb40_12.bits12 (fun HT_ HW_ => ?_)
              refine pure_ (i := 1) (N := some 41) (v := ?_) (a' := ?_) #[false, true, false, false, false, false, false, false, false, false, false, false, false, false, false, false, false, false] rfl rfl (any_of HT_.out (by kernel_rfl)) (fun _ _ _ h => h) (Or.inl ⟨by rfl, ?_⟩) ?_ ?_
              rotate_left
              · intro w'
                go_simp
                with_reducible rfl
              rotate_left
              · simp only [Act.put, List.setIfInBounds_toArray, List.set_cons_zero, List.set_cons_succ, i64_w, i32_w]
                rfl
              refine pure_ (i := 3) (N := some 43) (v := ?_) (a' := ?_) #[false, true, false, true, false, false, false, false, false, false, false, false, false, false, false, false, false, false] rfl rfl (any_of HT_.out (by kernel_rfl)) (fun _ _ _ h => h) (Or.inl ⟨by rfl, ?_⟩) ?_ ?_
              rotate_left
              · intro w'
                go_simp
                with_reducible rfl
              rotate_left
              · simp only [Act.put, List.setIfInBounds_toArray, List.set_cons_zero, List.set_cons_succ, i64_w, i32_w]
                rfl
              refine pure_ (i := 9) (N := some 49) (v := ?_) (a' := ?_) #[false, true, false, true, false, false, false, false, false, true, false, false, false, false, false, false, false, false] rfl rfl (any_of HT_.out (by kernel_rfl)) (fun _ _ _ h => h) (Or.inl ⟨by rfl, ?_⟩) ?_ ?_
              rotate_left
              · intro w'
                go_simp
                with_reducible rfl
              rotate_left
              · simp only [Act.put, List.setIfInBounds_toArray, List.set_cons_zero, List.set_cons_succ, i64_w, i32_w]
                rfl
              refine pure_ (i := 11) (N := some 51) (v := ?_) (a' := ?_) #[false, true, false, true, false, false, false, false, false, true, false, true, false, false, false, false, false, false] rfl rfl (any_of HT_.out (by kernel_rfl)) (fun _ _ _ h => h) (Or.inl ⟨by rfl, ?_⟩) ?_ ?_
              rotate_left
              · intro w'
                go_simp
                with_reducible rfl
              rotate_left
              · simp only [Act.put, List.setIfInBounds_toArray, List.set_cons_zero, List.set_cons_succ, i64_w, i32_w]
                rfl
              refine take_ (i := 0) (N := some 40) (v := ?_) (a' := ?_) #[true, true, false, true, false, false, false, false, false, true, false, true, false, false, false, false, false, false] rfl rfl (take_ofW HT_.out HW_.out (by kernel_rfl)) (fun _ _ _ h => h) (Or.inl ⟨by rfl, ?_⟩) hHeld ?_ ?_
              rotate_left
              · rintro w' ⟨s0, s1, s2, s3, s4, s5⟩
                go_simp
                with_reducible rfl
              rotate_left
              · simp only [Act.put, List.setIfInBounds_toArray, List.set_cons_zero, List.set_cons_succ, i64_w, i32_w]
                rfl
              refine take_ (i := 2) (N := some 42) (v := ?_) (a' := ?_) #[true, true, true, true, false, false, false, false, false, true, false, true, false, false, false, false, false, false] rfl rfl (take_ofW HT_.out HW_.out (by kernel_rfl)) (fun _ _ _ h => h) (Or.inl ⟨by rfl, ?_⟩) hHeld ?_ ?_
              rotate_left
              · rintro w' ⟨s0, s1, s2, s3, s4, s5⟩
                go_simp
                with_reducible rfl
              rotate_left
              · simp only [Act.put, List.setIfInBounds_toArray, List.set_cons_zero, List.set_cons_succ, i64_w, i32_w]
                rfl
              refine pure_ (i := 4) (N := some 44) (v := ?_) (a' := ?_) #[true, true, true, true, true, false, false, false, false, true, false, true, false, false, false, false, false, false] rfl rfl (any_of HT_.out (by kernel_rfl)) (fun _ _ _ h => h) (Or.inl ⟨by rfl, ?_⟩) ?_ ?_
              rotate_left
              · intro w'
                go_simp
                with_reducible rfl
              rotate_left
              · simp only [Act.put, List.setIfInBounds_toArray, List.set_cons_zero, List.set_cons_succ, i64_w, i32_w]
                rfl
              refine pure_ (i := 5) (N := some 45) (v := ?_) (a' := ?_) #[true, true, true, true, true, true, false, false, false, true, false, true, false, false, false, false, false, false] rfl rfl (any_of HT_.out (by kernel_rfl)) (fun _ _ _ h => h) (Or.inl ⟨by rfl, ?_⟩) ?_ ?_
              rotate_left
              · intro w'
                go_simp
                with_reducible rfl
              rotate_left
              · simp only [Act.put, List.setIfInBounds_toArray, List.set_cons_zero, List.set_cons_succ, i64_w, i32_w]
                rfl
              refine take_ (i := 6) (N := some 46) (v := ?_) (a' := ?_) #[true, true, true, true, true, true, true, false, false, true, false, true, false, false, false, false, false, false] rfl rfl (take_ofW HT_.out HW_.out (by kernel_rfl)) (fun _ _ _ h => h) (Or.inl ⟨by rfl, ?_⟩) hHeld ?_ ?_
              rotate_left
              · rintro w' ⟨s0, s1, s2, s3, s4, s5⟩
                go_simp
                with_reducible rfl
              rotate_left
              · simp only [Act.put, List.setIfInBounds_toArray, List.set_cons_zero, List.set_cons_succ, i64_w, i32_w]
                rfl
              refine take_ (i := 8) (N := some 48) (v := ?_) (a' := ?_) #[true, true, true, true, true, true, true, false, true, true, false, true, false, false, false, false, false, false] rfl rfl (take_ofW HT_.out HW_.out (by kernel_rfl)) (fun _ _ _ h => h) (Or.inl ⟨by rfl, ?_⟩) hHeld ?_ ?_
              rotate_left
              · rintro w' ⟨s0, s1, s2, s3, s4, s5⟩
                go_simp
                with_reducible rfl
              rotate_left
              · simp only [Act.put, List.setIfInBounds_toArray, List.set_cons_zero, List.set_cons_succ, i64_w, i32_w]
                rfl
              refine take_ (i := 10) (N := some 50) (v := ?_) (a' := ?_) #[true, true, true, true, true, true, true, false, true, true, true, true, false, false, false, false, false, false] rfl rfl (take_ofW HT_.out HW_.out (by kernel_rfl)) (fun _ _ _ h => h) (Or.inl ⟨by rfl, ?_⟩) hHeld ?_ ?_
              rotate_left
              · rintro w' ⟨s0, s1, s2, s3, s4, s5⟩
                go_simp
                with_reducible rfl
              rotate_left
              · simp only [Act.put, List.setIfInBounds_toArray, List.set_cons_zero, List.set_cons_succ, i64_w, i32_w]
                rfl
              refine pure_ (i := 12) (N := some 52) (v := ?_) (a' := ?_) #[true, true, true, true, true, true, true, false, true, true, true, true, true, false, false, false, false, false] rfl rfl (any_of HT_.out (by kernel_rfl)) (fun _ _ _ h => h) (Or.inl ⟨by rfl, ?_⟩) ?_ ?_
              rotate_left
              · intro w'
                go_simp
                with_reducible rfl
              rotate_left
              · simp only [Act.put, List.setIfInBounds_toArray, List.set_cons_zero, List.set_cons_succ, i64_w, i32_w]
                rfl
              refine pure_ (i := 13) (N := some 53) (v := ?_) (a' := ?_) #[true, true, true, true, true, true, true, false, true, true, true, true, true, true, false, false, false, false] rfl rfl (any_of HT_.out (by kernel_rfl)) (fun _ _ _ h => h) (Or.inl ⟨by rfl, ?_⟩) ?_ ?_
              rotate_left
              · intro w'
                go_simp
                with_reducible rfl
              rotate_left
              · simp only [Act.put, List.setIfInBounds_toArray, List.set_cons_zero, List.set_cons_succ, i64_w, i32_w]
                rfl
              refine take_ (i := 14) (N := some 54) (v := ?_) (a' := ?_) #[true, true, true, true, true, true, true, false, true, true, true, true, true, true, true, false, false, false] rfl rfl (take_ofW HT_.out HW_.out (by kernel_rfl)) (fun _ _ _ h => h) (Or.inl ⟨by rfl, ?_⟩) hHeld ?_ ?_
              rotate_left
              · rintro w' ⟨s0, s1, s2, s3, s4, s5⟩
                go_simp
                with_reducible rfl
              rotate_left
              · simp only [Act.put, List.setIfInBounds_toArray, List.set_cons_zero, List.set_cons_succ, i64_w, i32_w]
                rfl
              refine one_ (i := 7) (N := some 47) #[true, true, true, true, true, true, true, true, true, true, true, true, true, true, true, false, false, false] rfl rfl (one_of HT_.out (by kernel_rfl)) (by decide) (fun K hK => ?_)
              refine goes_ Try.func29 (by kernel_rfl) rfl #[.agg #[.slice A n cg, .slice (some ⟨be, 0, none⟩) R.length ce, .int .i64 0, .int .i64 0], .int .i64 u] (by rfl) rfl rfl (by simp only [List.map_toArray, List.map_cons, List.map_nil]; rfl) ?_
              with_reducible refine ((HCU.out wr.drew (Below.refl _ _).drew)).mono ?_
              rintro e wa ⟨rfl, hb_wa⟩
              refine ⟨_, rfl, ?_⟩
              refine hK.out _ _ ⟨(keep_at hb_wa (show (wr.drew).cell? _ = _ from q0)), (keep_at hb_wa (show (wr.drew).cell? _ = _ from q1)), (keep_at hb_wa (show (wr.drew).cell? _ = _ from q2)), (keep_at hb_wa (show (wr.drew).cell? _ = _ from q3)), (keep_at hb_wa (show (wr.drew).cell? _ = _ from qu)), (keep_at hb_wa (show (wr.drew).cell? _ = _ from qv))⟩ (fun hHeld => ?_)
              clear hK K
              refine norm_ (a' := ?_) ?_ ?_
              rotate_left
              · show Act.put _ (some 47) _ = _
                simp only [Act.put, List.setIfInBounds_toArray, List.set_cons_zero, List.set_cons_succ, i64_w, i32_w]
                rfl
              refine one_ (i := 15) (N := some 55) #[true, true, true, true, true, true, true, true, true, true, true, true, true, true, true, true, false, false] rfl rfl (one_of HT_.out (by kernel_rfl)) (by decide) (fun K hK => ?_)
              refine goes_ Try.func29 (by kernel_rfl) rfl #[.agg #[.slice A n cg, .slice (some ⟨be, 0, none⟩) R.length ce, .int .i64 0, .int .i64 0], .int .i64 v] (by rfl) rfl rfl (by simp only [List.map_toArray, List.map_cons, List.map_nil]; rfl) ?_
              with_reducible refine ((HCV.out wa (Below.drewL hb_wa))).mono ?_
              rintro e wb ⟨rfl, hb_wb⟩
              refine ⟨_, rfl, ?_⟩
              refine hK.out _ _ ⟨(keep_at hb_wb (keep_at hb_wa (show (wr.drew).cell? _ = _ from q0))), (keep_at hb_wb (keep_at hb_wa (show (wr.drew).cell? _ = _ from q1))), (keep_at hb_wb (keep_at hb_wa (show (wr.drew).cell? _ = _ from q2))), (keep_at hb_wb (keep_at hb_wa (show (wr.drew).cell? _ = _ from q3))), (keep_at hb_wb (keep_at hb_wa (show (wr.drew).cell? _ = _ from qu))), (keep_at hb_wb (keep_at hb_wa (show (wr.drew).cell? _ = _ from qv)))⟩ (fun hHeld => ?_)
              clear hK K
              refine norm_ (a' := ?_) ?_ ?_
              rotate_left
              · show Act.put _ (some 55) _ = _
                simp only [Act.put, List.setIfInBounds_toArray, List.set_cons_zero, List.set_cons_succ, i64_w, i32_w]
                rfl
              refine pure_ (i := 16) (N := some 9) (v := ?_) (a' := ?_) #[true, true, true, true, true, true, true, true, true, true, true, true, true, true, true, true, true, false] rfl rfl (any_of HT_.out (by kernel_rfl)) (fun _ _ _ h => h) (Or.inl ⟨by rfl, ?_⟩) ?_ ?_
              rotate_left
              · intro w'
                go_simp
                with_reducible rfl
              rotate_left
              · simp only [Act.put, List.setIfInBounds_toArray, List.set_cons_zero, List.set_cons_succ, i64_w, i32_w]
                rfl
              refine pure_ (i := 17) (N := some 10) (v := ?_) (a' := ?_) #[true, true, true, true, true, true, true, true, true, true, true, true, true, true, true, true, true, true] rfl rfl (any_of HT_.out (by kernel_rfl)) (fun _ _ _ h => h) (Or.inl ⟨by rfl, ?_⟩) ?_ ?_
              rotate_left
              · intro w'
                go_simp
                with_reducible rfl
              rotate_left
              · simp only [Act.put, List.setIfInBounds_toArray, List.set_cons_zero, List.set_cons_succ, i64_w, i32_w]
                rfl
              refine done_ (done_of HT_.out (by kernel_rfl)) ?_
              clear hHeld HT_ HW_
              clear q0 q1 q2 q3 qu qv HCU HCV
              have HG2 := Lib.hid (HG.out.below ((Below.drewL hb_wa).trans (hb_wb.mono (Below.drewL hb_wa).size)))
              clear hb_wa hb_wb HG
              obtain ⟨x1, hx1⟩ : ∃ x1, rb'[pu]? = some x1 := ⟨_, List.getElem?_eq_getElem (by rw [HG2.out.len]; exact hpu)⟩
              obtain ⟨x2, hx2⟩ : ∃ x2, rb'[pv]? = some x2 := ⟨_, List.getElem?_eq_getElem (by rw [HG2.out.len]; exact hpv)⟩
              have cu := HG2.out.i.cell pu (bls_at _ hx1)
              have cv := HG2.out.i.cell pv (bls_at _ hx2)
              have hfr := HG2.out.i.free pv
              cases x1 with
              | false =>
                have HP2 := Lib.hid (HKU.out (fun h => by rw [hx1] at h; cases h))
                clear hx1 hx2 HKU HKV
                go_wp2
                go_roundg k1
                case measure => have := HKK.out; omega
                case rel => exact ⟨k + 1, again, rb', rfl, by go_num, Lib.hid ⟨by have := HKK.out; omega, HG2.out, HP2.out⟩⟩
              | true =>
                cases x2 with
                | true =>
                  have HP2 := Lib.hid (HKU.out (fun _ => hx2))
                  clear hx1 hx2 HKU HKV
                  go_wp2
                  go_roundg k1
                  case measure => have := HKK.out; omega
                  case rel => exact ⟨k + 1, again, rb', rfl, by go_num, Lib.hid ⟨by have := HKK.out; omega, HG2.out, HP2.out⟩⟩
                | false =>
                  have HP2 := Lib.hid (HKV.out hx1 hx2)
                  have HG3 := Lib.hid (HG2.out.set pv true)
                  clear hx1 hx2 HKU HKV HG2
                  go_wp2
                  go_roundg k1
                  case measure => have := HKK.out; omega
                  case rel => exact ⟨k + 1, true, rb'.set pv true, rfl, by go_num, Lib.hid ⟨by have := HKK.out; omega, HG3.out, HP2.out⟩⟩
            · obtain rfl : k = R.length := by omega
              have HG := Lib.hid hG
              have HP := Lib.hid hP
              clear hG hP hkk hk
              go_wp2
              go_roundg (if again = true then rb'.count false + 1 else 0)
              case measure =>
                cases again with
                | true => have := HP.out.yes rfl; rw [if_pos rfl]; omega
                | false => rw [if_neg (by decide)]; omega
              case rel => exact ⟨again, rb', rfl, Lib.hid ⟨HG.out, HP.out.snd, fun h => (HP.out.no h).2, rfl⟩⟩

end Go.Proofs.Ythlmffjafeodlaa.Lw

/- The references' Closure, walked. -/
namespace Go.Proofs.Ythlmffjafeodlaa.Lw
open Go Go.RowKit Go.Proofs.Ythlmffjafeodlaa.Mem Go.Proofs.Ythlmffjafeodlaa.Sl Go.Proofs.Ythlmffjafeodlaa.Scc Go.Proofs.Ythlmffjafeodlaa.Tj Go.Proofs.YthlmffjafeodlaaW.PrintWords Go.Proofs.YthlmffjafeodlaaW.PrintLast
attribute [local go_sem ↓] Go.wp_at_zero Go.wp_at_succ
set_option linter.unusedSimpArgs false
set_option linter.unusedVariables false

theorem info_bools : (Try.prog.info? 69).map (fun i => (i.zero, i.size, i.bytes)) = some (some (.slice none 0 0), 1, 24) := by kernel_rfl

open Classical in
/-- Does i reach x? -/
noncomputable def rB (E : Nat → Nat → Prop) (i x : Nat) : Bool := decide (Rch E i x)
theorem rB_iff {E : Nat → Nat → Prop} {i x : Nat} : rB E i x = true ↔ Rch E i x := by
  unfold rB
  exact @decide_eq_true_iff _ (Classical.propDecidable _)
noncomputable def rowB (E : Nat → Nat → Prop) (n i : Nat) : List Bool := (List.range n).map (rB E i)
theorem rowB_length (E : Nat → Nat → Prop) (n i : Nat) : (rowB E n i).length = n := by simp [rowB]
theorem rowB_eq {E : Nat → Nat → Prop} {n i : Nat} {rb : List Bool} (hl : rb.length = n) (h : ∀ x : Nat, rb[x]? = some true ↔ Rch E i x) : rb = rowB E n i := by
  refine List.ext_getElem (by rw [hl, rowB_length]) fun x h1 h2 => ?_
  have e : (rowB E n i)[x] = rB E i x := by simp [rowB]
  rw [e, Bool.eq_iff_iff, rB_iff, ← h x, List.getElem?_eq_getElem h1]
  simp
theorem rowB_at {E : Nat → Nat → Prop} {n i x : Nat} (h : x < n) : (rowB E n i)[x]? = some (rB E i x) := by
  unfold rowB
  rw [List.getElem?_map, List.getElem?_range h]
  rfl

/-- The closure can be read. -/
def RdC (w : World) (A : Option Addr) (n : Nat) (E : Nat → Nat → Prop) : Prop := ∀ i, i < n → ∃ b B cB, A = some ⟨b, 0, none⟩ ∧ w.cell? ⟨b, i, none⟩ = some (.slice (some ⟨B, 0, none⟩) n cB) ∧ ∀ x, x < n → w.cell? ⟨B, x, none⟩ = some (.bool (rB E i x))
theorem RdC.below {w w' : World} {A : Option Addr} {n : Nat} {E : Nat → Nat → Prop} (h : RdC w A n E) (hb : Below w.heap.size w w') : RdC w' A n E := fun i hi => by
  obtain ⟨b, B, cB, h1, h2, h3⟩ := h i hi
  exact ⟨b, B, cB, h1, keep_at hb h2, fun x hx => keep_at hb (h3 x hx)⟩

/-- The first i rows of the closure. -/
def CSt (w : World) (n i : Nat) (E : Nat → Nat → Prop) (v : Value) (W : World) : Prop :=
  ∃ vals, One w 69 1 v i vals W ∧ ∀ (j : Nat) (u : Value), vals[j]? = some u → W.ownsRow w.heap.size 4 1 u n (bls (rowB E n j))

def tb30_5.T5 : Bool × List (List Nat × List Nat) := (true, [([], []), ([], []), ([], []), ([2], [2]), ([], []), ([3, 4], [3, 4]), ([5], [5]), ([1, 6], [1, 6]), ([7], [7]), ([0, 8, 7], [0, 8]), ([9, 9, 0, 1, 2, 3, 4, 5, 6, 7, 8, 9], [0, 9])])
def tb30_5.B5 : List Nat := [0, 0, 0, 4, 0, 28, 60, 126, 254, 511, 1023]
theorem tb30_5.tab5 : rtab .any (opsOf Try.f30 5) = tb30_5.T5 := by kernel_rfl
theorem tb30_5.bits5 : waitsOk tb30_5.T5.2 tb30_5.B5 = true := by kernel_rfl
theorem closure_step {w wr wa w3 : World} {n i : Nat} {E : Nat → Nat → Prop} {v v3 : Value} {vals : List Value} {AB : Option Addr} {cB : Nat} {rb : List Bool}
    (hO : One w 69 1 v i vals wr) (hR : ∀ (j : Nat) (u : Value), vals[j]? = some u → wr.ownsRow w.heap.size 4 1 u n (bls (rowB E n j))) (hba : Below wr.heap.size wr wa)
    (ho1 : One wr.drew 4 1 (.slice AB n cB) n (bls rb) wa) (hrl : rb.length = n) (hall : ∀ x : Nat, rb[x]? = some true ↔ Rch E i x)
    (hg : (wa.alloc (.cells #[.slice AB n cB] 69)).grownBy w3 v.ownBlock) (hone3 : One w 69 1 v3 (i + 1) (vals ++ [.slice AB n cB]) w3) : CSt w n (i + 1) E v3 w3 := by
  have hvl : vals.length = i := by have := hO.r.1; omega
  have hown := (own_below hO.r hba).alloc (.cells #[.slice AB n cB] 69)
  refine ⟨_, hone3, fun j u hu => ?_⟩
  rcases Nat.lt_or_ge j vals.length with hj | hj
  · rw [List.getElem?_append_left hj] at hu
    have h1 := (own_below (hR j u hu) hba).alloc (.cells #[.slice AB n cB] 69)
    exact h1.kept hg (own_types h1 hown (by decide))
  · have hj0 : j = i := by
      have := (List.getElem?_eq_some_iff.1 hu).1
      simp at this
      omega
    subst hj0
    rw [List.getElem?_append_right hj, hvl, Nat.sub_self] at hu
    cases hu
    rw [← rowB_eq hrl hall]
    have h1 := (own_mono (B' := w.heap.size) ho1.r hO.b.size).alloc (.cells #[.slice AB n cB] 69)
    exact h1.kept hg (own_types h1 hown (by decide))

set_option maxHeartbeats 8000000 in
set_option maxRecDepth 100000 in
theorem closure_calls (w : World) (A AE : Option Addr) (cg ce : Nat) (sl : List Int) (R : List (Int × Int)) (hv : RdI w A sl) (he : RdE w AE R) (hs : sl.Pairwise (· < ·)) (hgood : good sl R = true) (hl : sl.length ≤ 1000) (hr : R.length ≤ 100000) :
    Calls Try.prog 30 #[gV A sl.length cg (.slice AE R.length ce)] w fun e w' => ∃ A' c', e = .returned (.slice A' sl.length c') ∧ RdC w' A' sl.length (PE sl R) ∧ Below w.heap.size w w' := by
  obtain ⟨i5, hi5, hz5, hs5, hy5⟩ := info_parts info_bools
  obtain ⟨n, hn⟩ : ∃ n, sl.length = n := ⟨_, rfl⟩
  rw [hn] at hl ⊢
  have HV := Lib.hid hv
  have HE := Lib.hid he
  have HS := Lib.hid hs
  have HGD := Lib.hid hgood
  have HN := Lib.hid hn
  clear hv he hs hgood hn
  unfold gV
  go_enter Try.func30, Try.ntmps30
  go_wp2_with fail
  refine gen_loopw (fun W => At W w.heap.size [.slice A n cg, .slice AE R.length ce, .int .i64 0, .int .i64 0] 44 ∧ Below w.heap.size w W) ?_ ?_
  · exact ⟨At.made rfl rfl, (Below.refl _ _).alloc (Nat.le_refl _) _⟩
  obtain ⟨gx, hgx⟩ : ∃ gx, w.heap.size = gx := ⟨_, rfl⟩
  rw [hgx]
  have HGX := Lib.hid hgx
  rintro w3 ⟨hat, hb⟩
  rw [← hgx] at hb
  have HAT := Lib.hid hat
  have HB := Lib.hid hb
  clear hat hb hgx
  go_loopg [3, 4] n (fun kq v3 v4 w' => ∃ i : Nat, v4 = .int .i64 (i : Int) ∧ Hid (i + kq = n ∧ At w' gx [.slice A n cg, .slice AE R.length ce, .int .i64 0, .int .i64 0] 44 ∧ CSt w n i (PE sl R) v3 w'))
  case atStart => exact ⟨0, rfl, Lib.hid ⟨by omega, HAT.out, [], One.startAt HB.out, fun j u h => by simp at h⟩⟩
  case round =>
    clear HAT HB
    obtain ⟨i, rfl, hI⟩ := hrel
    obtain ⟨hik, hat, vals, hO, hR⟩ := hI.out
    clear hI
    have q0 := hat.cell 0 rfl
    by_cases hi : i < n
    · obtain ⟨k1, rfl⟩ : ∃ k1, gk = k1 + 1 := ⟨gk - 1, by omega⟩
      obtain ⟨s, hsx⟩ : ∃ s, sl[i]? = some s := ⟨_, List.getElem?_eq_getElem (by have := HN.out; omega)⟩
      obtain ⟨b, rfl, qs⟩ := (HV.out.below hO.b) i s hsx
      have q1 := hat.cell 1 rfl
      have q2 := hat.cell 2 rfl
      have q3 := hat.cell 3 rfl
      have hba : Below wr.heap.size wr wr.drew := (Below.refl _ _).drew
      have hC := reached_calls wr.drew (some ⟨b, 0, none⟩) AE cg ce i sl R s ((HV.out.below hO.b).below hba) ((HE.out.below hO.b).below hba) HS.out HGD.out hsx (by have := HN.out; omega) hr
      rw [HN.out] at hC
      unfold gV at hC
      have HCR := Lib.hid hC
      have HO := Lib.hid hO
      have HRS := Lib.hid hR
      have HAT := Lib.hid hat
      have HIK := Lib.hid hik
      have j0 : (0 : Int) ≤ (i : Int) := by omega
      have j1 : (i : Int) < (n : Int) := by omega
      have j2 : (n : Int) ≤ 1000 := by omega
      clear hC hO hR hat hik hsx hba hi
      go_upto_region 5 with (fail)
      refine start_ (n := 11) (S := fun w' => w'.cell? ⟨gx, 0, none⟩ = some (.slice (some ⟨b, 0, none⟩) n cg) ∧ w'.cell? ⟨gx, 1, none⟩ = some (.slice AE R.length ce) ∧ w'.cell? ⟨gx, 2, none⟩ = some (.int .i64 0) ∧ w'.cell? ⟨gx, 3, none⟩ = some (.int .i64 0) ∧ w'.cell? ⟨b, i, none⟩ = some (.int .i64 s)) (ds := [9]) #[false, false, false, false, false, false, false, false, false, false, false] (by kernel_rfl) rfl rfl ⟨q0, q1, q2, q3, qs⟩ (fun hHeld => ?_)
      refine with_tabW tb30_5.tab5 tb30_5.bits5 (fun HT_ HW_ => ?_)
      refine pure_ (i := 0) (N := some 12) (v := ?_) (a' := ?_) #[true, false, false, false, false, false, false, false, false, false, false] rfl rfl (any_of HT_.out (by kernel_rfl)) (fun _ _ _ h => h) (Or.inl ⟨by rfl, ?_⟩) ?_ ?_
      rotate_left
      · intro w'
        go_simp
        with_reducible rfl
      rotate_left
      · simp only [Act.put, List.setIfInBounds_toArray, List.set_cons_zero, List.set_cons_succ, i64_w, i32_w]
        rfl
      refine pure_ (i := 2) (N := some 14) (v := ?_) (a' := ?_) #[true, false, true, false, false, false, false, false, false, false, false] rfl rfl (any_of HT_.out (by kernel_rfl)) (fun _ _ _ h => h) (Or.inl ⟨by rfl, ?_⟩) ?_ ?_
      rotate_left
      · intro w'
        go_simp
        with_reducible rfl
      rotate_left
      · simp only [Act.put, List.setIfInBounds_toArray, List.set_cons_zero, List.set_cons_succ, i64_w, i32_w]
        rfl
      refine pure_ (i := 4) (N := some 16) (v := ?_) (a' := ?_) #[true, false, true, false, true, false, false, false, false, false, false] rfl rfl (any_of HT_.out (by kernel_rfl)) (fun _ _ _ h => h) (Or.inl ⟨by rfl, ?_⟩) ?_ ?_
      rotate_left
      · intro w'
        go_simp
        with_reducible rfl
      rotate_left
      · simp only [Act.put, List.setIfInBounds_toArray, List.set_cons_zero, List.set_cons_succ, i64_w, i32_w]
        rfl
      refine take_ (i := 1) (N := some 13) (v := ?_) (a' := ?_) #[true, true, true, false, true, false, false, false, false, false, false] rfl rfl (take_ofW HT_.out HW_.out (by kernel_rfl)) (fun _ _ _ h => h) (Or.inl ⟨by rfl, ?_⟩) hHeld ?_ ?_
      rotate_left
      · rintro w' ⟨s0, s1, s2, s3, s4⟩
        go_simp
        with_reducible rfl
      rotate_left
      · simp only [Act.put, List.setIfInBounds_toArray, List.set_cons_zero, List.set_cons_succ, i64_w, i32_w]
        rfl
      refine take_ (i := 3) (N := some 15) (v := ?_) (a' := ?_) #[true, true, true, true, true, false, false, false, false, false, false] rfl rfl (take_ofW HT_.out HW_.out (by kernel_rfl)) (fun _ _ _ h => h) (Or.inl ⟨by rfl, ?_⟩) hHeld ?_ ?_
      rotate_left
      · rintro w' ⟨s0, s1, s2, s3, s4⟩
        go_simp
        with_reducible rfl
      rotate_left
      · simp only [Act.put, List.setIfInBounds_toArray, List.set_cons_zero, List.set_cons_succ, i64_w, i32_w]
        rfl
      refine pure_ (i := 5) (N := some 17) (v := ?_) (a' := ?_) #[true, true, true, true, true, true, false, false, false, false, false] rfl rfl (any_of HT_.out (by kernel_rfl)) (fun _ _ _ h => h) (Or.inl ⟨by rfl, ?_⟩) ?_ ?_
      rotate_left
      · intro w'
        go_simp
        with_reducible rfl
      rotate_left
      · simp only [Act.put, List.setIfInBounds_toArray, List.set_cons_zero, List.set_cons_succ, i64_w, i32_w]
        rfl
      refine take_ (i := 6) (N := some 18) (v := ?_) (a' := ?_) #[true, true, true, true, true, true, true, false, false, false, false] rfl rfl (take_ofW HT_.out HW_.out (by kernel_rfl)) (fun _ _ _ h => h) (Or.inl ⟨by rfl, ?_⟩) hHeld ?_ ?_
      rotate_left
      · rintro w' ⟨s0, s1, s2, s3, s4⟩
        go_simp
        with_reducible rfl
      rotate_left
      · simp only [Act.put, List.setIfInBounds_toArray, List.set_cons_zero, List.set_cons_succ, i64_w, i32_w]
        rfl
      refine one_ (i := 7) (N := some 19) #[true, true, true, true, true, true, true, true, false, false, false] rfl rfl (one_of HT_.out (by kernel_rfl)) (by decide) (fun K hK => ?_)
      refine goes_ Try.func40 (by kernel_rfl) rfl #[.agg #[.slice (some ⟨b, 0, none⟩) n cg, .slice AE R.length ce, .int .i64 0, .int .i64 0], .int .i64 s] (by rfl) rfl rfl (by simp only [List.map_toArray, List.map_cons, List.map_nil]; rfl) ?_
      with_reducible refine (HCR.out).mono ?_
      rintro e wa ⟨vr, rb, rfl, ho1, hrl, hall⟩
      refine ⟨_, rfl, ?_⟩
      obtain ⟨AB, cB, rfl⟩ := own_slice ho1.r
      have hba : Below wr.heap.size wr wa := ⟨ho1.b.os, ho1.b.tape, ho1.b.output, ho1.b.size, ho1.b.block⟩
      refine hK.out _ _ ⟨(keep_at hba q0), (keep_at hba q1), (keep_at hba q2), (keep_at hba q3), (keep_at hba qs)⟩ (fun hHeld => ?_)
      clear hK K
      refine norm_ (a' := ?_) ?_ ?_
      rotate_left
      · show Act.put _ (some 19) _ = _
        simp only [Act.put, List.setIfInBounds_toArray, List.set_cons_zero, List.set_cons_succ, i64_w, i32_w]
        rfl
      refine one_ (i := 8) (N := some 20) #[true, true, true, true, true, true, true, true, true, false, false] rfl rfl (one_of HT_.out (by kernel_rfl)) (by decide) (fun K hK => ?_)
      refine value_ (w1 := ?_) (v := ?_) (by rfl) rfl ?_ ?_
      rotate_left 2
      · go_simp
        constructor
        · rfl
        · rfl
      refine hK.out _ _ ⟨(cell_al (keep_at hba q0) _), (cell_al (keep_at hba q1) _), (cell_al (keep_at hba q2) _), (cell_al (keep_at hba q3) _), (cell_al (keep_at hba qs) _)⟩ (fun hHeld => ?_)
      clear hK K
      refine norm_ (a' := ?_) ?_ ?_
      rotate_left
      · show Act.put _ (some 20) _ = _
        simp only [Act.put, List.setIfInBounds_toArray, List.set_cons_zero, List.set_cons_succ, i64_w, i32_w]
        rfl
      refine last_ (i := 9) (N := some 21) #[true, true, true, true, true, true, true, true, true, true, false] rfl rfl (one_of HT_.out (by kernel_rfl)) (by decide) (fun K hK => ?_)
      have hone := HO.out.below hba
      refine step_append_any rfl (.tmp 12) (.tmp 20) 67 rfl w.heap.size 69 i5 (.slice none 0 0) 1 24 Try.underlying67 hi5 hz5 hs5 hy5 rfl (by omega) _ _ _ rfl (hone.r.alloc (.cells #[.slice AB n cB] 69)) _ rfl 1 [.slice AB n cB] (RdV.lit wa #[.slice AB n cB] 69 1 1 1 rfl (by simp [Value.oneCell'])) (by unfold maxLen; omega) (by omega) (by have := hone.b.size; simp; omega) ?_
      intro v3 w3 ho hg hn
      have hone3 := (hone.below ((Below.refl wa.heap.size wa).alloc (Nat.le_refl _) (.cells #[.slice AB n cB] 69))).grow ho hg
      have HN3 := Lib.hid (closure_step HO.out HRS.out hba ho1 hrl hall hg hone3)
      have HX3 := Lib.hid (((HAT.out.below hba HAT.out.lt).al (o := (.cells #[.slice AB n cB] 69))).grown hg (own_off (hone.r.alloc (.cells #[.slice AB n cB] 69)) ((HAT.out.below hba HAT.out.lt).al) (by decide)))
      clear ho hg hn hone hone3 ho1 hrl hall hba
      refine hK.out _ _ ?_
      clear hK K
      refine norm_ (a' := ?_) ?_ ?_
      rotate_left
      · show Act.put _ (some 21) _ = _
        simp only [Act.put, List.setIfInBounds_toArray, List.set_cons_zero, List.set_cons_succ, i64_w, i32_w]
        rfl
      refine pure_ (i := 10) (N := some 3) (v := ?_) (a' := ?_) #[true, true, true, true, true, true, true, true, true, true, true] rfl rfl (any_of HT_.out (by kernel_rfl)) (fun _ _ _ h => h) (Or.inl ⟨by rfl, ?_⟩) ?_ ?_
      rotate_left
      · intro w'
        go_simp
        with_reducible rfl
      rotate_left
      · simp only [Act.put, List.setIfInBounds_toArray, List.set_cons_zero, List.set_cons_succ, i64_w, i32_w]
        rfl
      refine done_ (done_of HT_.out (by kernel_rfl)) ?_
      clear hHeld HT_ HW_
      clear q0 q1 q2 q3 qs
      go_wp2
      go_roundg k1
      case measure => have := HIK.out; omega
      case rel => exact ⟨i + 1, by go_num, Lib.hid ⟨by have := HIK.out; omega, HX3.out, HN3.out⟩⟩
    · obtain rfl : n = i := by omega
      obtain ⟨A', c', rfl⟩ := own_slice hO.r
      have hvl : vals.length = n := by have := hO.r.1; omega
      have hrd : RdC wr A' n (PE sl R) := by
        intro i hi
        obtain ⟨g, rfl, _, hcc⟩ := cell_flat hO.r (by omega)
        obtain ⟨u, hu⟩ : ∃ u, vals[i]? = some u := ⟨_, List.getElem?_eq_getElem (by omega)⟩
        have ho := hR i u hu
        obtain ⟨B, cB, rfl, _, _⟩ := ho.form (by omega)
        refine ⟨g, B, cB, rfl, hcc i _ hu, fun x hx => ?_⟩
        exact (ho.cellAt x (by omega)).trans (bls_at _ (rowB_at hx))
      have HRD := Lib.hid hrd
      have HO := Lib.hid hO
      clear hO hR hvl hrd hat hik hi
      go_wp2
      go_ret
      exact ⟨A', c', rfl, HRD.out, HO.out.b⟩

end Go.Proofs.Ythlmffjafeodlaa.Lw

/- The references' Of, walked. -/
namespace Go.Proofs.Ythlmffjafeodlaa.Lw
open Go Go.RowKit Go.Proofs.Ythlmffjafeodlaa.Mem Go.Proofs.Ythlmffjafeodlaa.Sl Go.Proofs.Ythlmffjafeodlaa.Scc Go.Proofs.Ythlmffjafeodlaa.Tj Go.Proofs.YthlmffjafeodlaaW.PrintWords Go.Proofs.YthlmffjafeodlaaW.PrintLast
attribute [local go_sem ↓] Go.wp_at_zero Go.wp_at_succ
set_option linter.unusedSimpArgs false
set_option linter.unusedVariables false

/-- Does none of the first j stand in i's component? -/
def fstB (comp : List Nat) (i j : Nat) : Bool := (comp.take j).all fun c => decide (c ≠ comp.getD i 0)
theorem fstB_succ {comp : List Nat} {i j : Nat} (h : j < comp.length) : fstB comp i (j + 1) = (fstB comp i j && decide (comp.getD j 0 ≠ comp.getD i 0)) := by
  unfold fstB
  rw [List.take_add_one, List.getElem?_eq_getElem h, List.all_append]
  have : comp.getD j 0 = comp[j] := by rw [List.getD_eq_getElem?_getD, List.getElem?_eq_getElem h]; rfl
  rw [this]
  simp
theorem grpZ_up {comp : List Nat} {sl : List Int} {c j : Nat} (h1 : j < comp.length) (h2 : j < sl.length) : grpZ (comp.take (j + 1)) (sl.take (j + 1)) c = grpZ (comp.take j) (sl.take j) c ++ (if comp.getD j 0 = c then [sl.getD j 0] else []) := by
  have e1 : comp.getD j 0 = comp[j] := by rw [List.getD_eq_getElem?_getD, List.getElem?_eq_getElem h1]; rfl
  have e2 : sl.getD j 0 = sl[j] := by rw [List.getD_eq_getElem?_getD, List.getElem?_eq_getElem h2]; rfl
  rw [e1, e2]
  unfold grpZ
  rw [List.take_succ_eq_append_getElem h1, List.take_succ_eq_append_getElem h2, List.zip_append (by rw [List.length_take, List.length_take]; omega), List.filter_append, List.map_append]
  congr 1
  by_cases h : comp[j] = c
  · rw [if_pos h]; simp [h]
  · rw [if_neg h]; simp [h]
theorem grpZ_none {comp : List Nat} {sl : List Int} {i : Nat} (h : fstB comp i i = true) : grpZ (comp.take i) (sl.take i) (comp.getD i 0) = [] := by
  unfold grpZ
  rw [List.filter_eq_nil_iff.2 ?_]
  · rfl
  · intro p hp
    have h1 : p.1 ∈ comp.take i := (List.of_mem_zip hp).1
    have h2 := List.all_eq_true.1 h p.1 h1
    simpa using h2
theorem fstB_iff {comp : List Nat} {i : Nat} : fstB comp i i = true ↔ comp.getD i 0 ∉ comp.take i := by
  unfold fstB
  rw [List.all_eq_true]
  exact ⟨fun h hm => by have := h _ hm; simp at this, fun h c hc => by rw [decide_eq_true_eq]; exact fun e => h (e ▸ hc)⟩
/-- How many components the first i make up. -/
theorem fo_take : ∀ (l : List Nat) (k m i : Nat), fo l k = some m → ∃ q, fo (l.take i) k = some q
  | [], k, m, i, h => ⟨k, by rw [List.take_nil]; rfl⟩
  | c :: r, k, m, 0, h => ⟨k, rfl⟩
  | c :: r, k, m, i + 1, h => by
    rw [fo] at h
    rw [List.take_succ_cons, fo]
    split at h
    · rename_i hc
      rw [if_pos hc]
      exact fo_take r k m i h
    · rename_i hc
      rw [if_neg hc]
      split at h
      · rename_i hk
        rw [if_pos hk]
        exact fo_take r (k + 1) m i h
      · cases h
theorem fo_next : ∀ (l : List Nat) (k m i q : Nat), fo l k = some m → fo (l.take i) k = some q → (h : i < l.length) → (fo (l.take (i + 1)) k = some (if l[i] < q then q else q + 1)) ∧ l[i] ≤ q ∧ (l[i] < q ↔ l[i] < k ∨ l[i] ∈ l.take i)
  | [], k, m, i, q, h, hq, hi => by simp at hi
  | c :: r, k, m, 0, q, h, hq, hi => by
    rw [List.take_zero, fo] at hq
    cases hq
    rw [fo] at h
    rw [List.take_succ_cons, List.take_zero, List.getElem_cons_zero, fo]
    split at h
    · rename_i hc
      rw [if_pos hc, if_pos hc]
      exact ⟨rfl, by omega, by simp⟩
    · rename_i hc
      rw [if_neg hc, if_neg hc]
      split at h
      · rename_i hk
        rw [if_pos hk]
        exact ⟨rfl, by omega, by simp⟩
      · cases h
  | c :: r, k, m, i + 1, q, h, hq, hi => by
    rw [fo] at h
    rw [List.take_succ_cons, fo] at hq
    rw [List.take_succ_cons (i := i + 1), List.getElem_cons_succ, fo]
    have hi' : i < r.length := by simpa using hi
    split at h
    · rename_i hc
      rw [if_pos hc] at hq ⊢
      obtain ⟨a, b, d⟩ := fo_next r k m i q h hq hi'
      refine ⟨a, b, d.trans ⟨fun x => x.imp id (fun y => by rw [List.take_succ_cons]; exact List.mem_cons_of_mem _ y), fun x => ?_⟩⟩
      rcases x with x | x
      · exact .inl x
      · rw [List.take_succ_cons] at x
        rcases List.mem_cons.1 x with y | y
        · left; omega
        · exact .inr y
    · rename_i hc
      rw [if_neg hc] at hq ⊢
      split at h
      · rename_i hk
        rw [if_pos hk] at hq ⊢
        obtain ⟨a, b, d⟩ := fo_next r (k + 1) m i q h hq hi'
        refine ⟨a, b, d.trans ⟨fun x => ?_, fun x => ?_⟩⟩
        · rcases x with x | x
          · rcases Nat.lt_or_ge r[i] k with y | y
            · exact .inl y
            · right; rw [List.take_succ_cons]; exact List.mem_cons.2 (.inl (by omega))
          · right; rw [List.take_succ_cons]; exact List.mem_cons_of_mem _ x
        · rcases x with x | x
          · left; omega
          · rw [List.take_succ_cons] at x
            rcases List.mem_cons.1 x with y | y
            · left; omega
            · exact .inr y
      · cases h


/-- Two vertices of one component. -/
theorem mut_iff {n m : Nat} {E : Nat → Nat → Prop} {comp : List Nat} (h : CompOf n E comp m) {i j : Nat} (hi : i < n) (hj : j < n) : (rB E i j && rB E j i) = decide (comp.getD j 0 = comp.getD i 0) := by
  rw [Bool.eq_iff_iff, Bool.and_eq_true, rB_iff, rB_iff, decide_eq_true_eq, ← h.2.2 i j hi hj]
  exact ⟨Eq.symm, Eq.symm⟩

/-- Behind the first i vertices: q components told. -/
def OSt (w1 : World) (comp : List Nat) (sl : List Int) (i q : Nat) (v4 : Value) (W : World) : Prop :=
  fo (comp.take i) 0 = some q ∧ ∃ vals, One w1 22 1 v4 q vals W ∧ Rz W w1.heap.size vals ((List.range q).map (grpZ comp sl))


set_option maxHeartbeats 8000000 in
set_option maxRecDepth 100000 in
theorem ofR_calls (w : World) (A AE : Option Addr) (cg ce m : Nat) (sl : List Int) (R : List (Int × Int)) (comp : List Nat) (hv : RdI w A sl) (he : RdE w AE R) (hs : sl.Pairwise (· < ·)) (hgood : good sl R = true) (hco : CompOf sl.length (PE sl R) comp m) (hl : sl.length ≤ 1000) (hr : R.length ≤ 100000) :
    Calls Try.prog 18 #[gV A sl.length cg (.slice AE R.length ce)] w fun e w' => ∃ A' c', e = .returned (.slice A' m c') ∧ RdL w' A' (ofL comp sl m) ∧ Below w.heap.size w w' := by
  obtain ⟨i1, hi1, hz1, hs1, hy1⟩ := info_parts info_int
  obtain ⟨i3, hi3, hz3, hs3, hy3⟩ := info_parts info_ints
  obtain ⟨n, hn⟩ : ∃ n, sl.length = n := ⟨_, rfl⟩
  have hclc := fun (W : World) (hW : Below w.heap.size w W) => closure_calls W A AE cg ce sl R (hv.below hW) (he.below hW) hs hgood hl hr
  rw [hn] at hl hco hclc ⊢
  unfold gV at hclc ⊢
  have HV := Lib.hid hv
  have HN := Lib.hid hn
  have HCO := Lib.hid hco
  have HCL := Lib.hid hclc
  clear hv he hs hgood hn hco hclc
  go_enter Try.func18, Try.ntmps18
  go_wp2_with fail
  refine (HCL.out _ ((Below.refl _ _).alloc (Nat.le_refl _) _)).mono ?_
  clear HCL
  rintro e w1 ⟨A3, c3, rfl, hrc, hb1⟩
  have hsz : (w.alloc (.cells #[.slice A n cg, .slice AE R.length ce, .int .i64 0, .int .i64 0] 44)).heap.size = w.heap.size + 1 := by simp
  have hgx : At w1 w.heap.size [.slice A n cg, .slice AE R.length ce, .int .i64 0, .int .i64 0] 44 := (At.made (w := w) (a := #[.slice A n cg, .slice AE R.length ce, .int .i64 0, .int .i64 0]) rfl rfl).below hb1 (by rw [hsz]; omega)
  have hbel : Below w.heap.size w w1 := ((Below.refl _ _).alloc (Nat.le_refl _) _).trans (hb1.mono (by rw [hsz]; omega))
  obtain ⟨gx, hgxe⟩ : ∃ gx, w.heap.size = gx := ⟨_, rfl⟩
  rw [hgxe] at hgx ⊢
  have q0 := hgx.cell 0 rfl
  have HGXE := Lib.hid hgxe
  have HX := Lib.hid hgx
  have HRC := Lib.hid hrc
  have HB1 := Lib.hid hbel
  have HV1 := Lib.hid (HV.out.below (hgxe ▸ hbel : Below w.heap.size w w1))
  clear hsz hgx hbel hrc hb1 HV
  go_wp2_with fail
  clear q0
  go_loopg [4, 5] n (fun kq v4 v5 w' => ∃ i q : Nat, v5 = .int .i64 (i : Int) ∧ Hid (i + kq = n ∧ q ≤ i ∧ OSt w1 comp sl i q v4 w'))
  case atStart => exact ⟨0, 0, rfl, Lib.hid ⟨by omega, Nat.le_refl _, rfl, [], One.start, Rz.nil⟩⟩
  case round =>
    obtain ⟨i, q, rfl, hI⟩ := hrel
    obtain ⟨hik, hqi, hfo, vals, hO, hZ⟩ := hI.out
    clear hI
    have q0 := (HX.out.below hO.b HX.out.lt).cell 0 rfl
    have hcn : comp.length = n := HCO.out.1
    by_cases hi : i < n
    · obtain ⟨k1, rfl⟩ : ∃ k1, gk = k1 + 1 := ⟨gk - 1, by omega⟩
      obtain ⟨b3, Bi, cBi, rfl, ci, cix⟩ := (HRC.out.below hO.b) i hi
      have hci : comp.getD i 0 = comp[i]'(by omega) := by rw [List.getD_eq_getElem?_getD, List.getElem?_eq_getElem (by omega)]; rfl
      obtain ⟨hf1, hf2, hf3⟩ := fo_next comp 0 m i q HCO.out.2.1 hfo (by omega)
      rw [← hci] at hf1 hf2 hf3
      have HF1 := Lib.hid hf1
      have HF2 := Lib.hid hf2
      have HF3 := Lib.hid hf3
      have HO := Lib.hid hO
      have HZ := Lib.hid hZ
      have HIK := Lib.hid (show i + (k1 + 1) = n ∧ q ≤ i ∧ i < n ∧ comp.length = n from ⟨hik, hqi, hi, hcn⟩)
      have HCI := Lib.hid ci
      have HCX := Lib.hid cix
      have HCR := Lib.hid (HRC.out.below hO.b)
      have HVW := Lib.hid (RdI.below HV1.out hO.b)
      have HXW := Lib.hid (HX.out.below hO.b HX.out.lt)
      have j0 : (0 : Int) ≤ (i : Int) := by omega
      have j1 : (i : Int) < (n : Int) := by omega
      have j2 : (n : Int) ≤ 1000 := by omega
      obtain ⟨wr0, hwr0⟩ : ∃ wr0, wr = wr0 := ⟨_, rfl⟩
      rw [hwr0] at HO HZ HCI HCX HCR HVW HXW q0 ⊢
      clear hf1 hf2 hf3 hfo hO hZ hik hqi hcn hci ci cix hwr0 hi
      go_wp2_with fail
      go_loopg [6, 7] i (fun kq v6 v7 w' => ∃ j : Nat, v7 = .int .i64 (j : Int) ∧ v6 = .bool (fstB comp i j) ∧ Hid (j + kq = i ∧ w' = wr0))
      case atStart => exact ⟨0, rfl, rfl, Lib.hid ⟨by omega, rfl⟩⟩
      case round =>
        obtain ⟨j, rfl, rfl, hI⟩ := hrel
        obtain ⟨hji, hw⟩ := hI.out
        subst hw
        clear hI
        by_cases hj : j < i
        · obtain ⟨k2, rfl⟩ : ∃ k2, gk = k2 + 1 := ⟨gk - 1, by omega⟩
          have hin := HIK.out.2.2.1
          obtain ⟨_, Bj, cBj, hbe, cj, cjx⟩ := HCR.out j (by omega)
          cases hbe
          have ci := HCI.out
          have x1 := HCX.out j (by omega)
          have x2 := cjx i hin
          have hmu := mut_iff HCO.out hin (show j < n by omega)
          have hsu := fstB_succ (comp := comp) (i := i) (j := j) (by have := HIK.out.2.2.2; omega)
          obtain ⟨r1, hr1⟩ : ∃ r1, rB (PE sl R) i j = r1 := ⟨_, rfl⟩
          obtain ⟨r2, hr2⟩ : ∃ r2, rB (PE sl R) j i = r2 := ⟨_, rfl⟩
          obtain ⟨fb, hfb⟩ : ∃ fb, fstB comp i j = fb := ⟨_, rfl⟩
          rw [hr1] at x1 hmu
          rw [hr2] at x2 hmu
          rw [hfb] at hsu ⊢
          have hnew : fstB comp i (j + 1) = (fb && !(r1 && r2)) := by rw [hsu, hmu]; simp
          have HNW := Lib.hid hnew
          have HJ := Lib.hid hji
          have k0 : (0 : Int) ≤ (j : Int) := by omega
          have k1' : (j : Int) < (i : Int) := by omega
          have k3 : (j : Int) < (n : Int) := by omega
          clear hmu hsu hnew hr1 hr2 hfb cjx hji hj
          cases fb <;> cases r1 <;> cases r2
          all_goals go_wp2
          all_goals go_roundg k2
          all_goals first
            | (have := HJ.out; omega)
            | exact ⟨j + 1, by go_num, by rw [HNW.out]; rfl, Lib.hid ⟨by have := HJ.out; omega, rfl⟩⟩
        · obtain rfl : i = j := by omega
          clear hji hj
          cases hfb : fstB comp i i with
          | false =>
            have hin : comp.getD i 0 < q := HF3.out.2 (.inr (Classical.byContradiction fun h => by rw [fstB_iff.2 h] at hfb; cases hfb))
            have hfo := HF1.out
            rw [if_pos hin] at hfo
            have HFO := Lib.hid hfo
            clear hfb hin hfo
            go_wp2
            go_roundg k1
            case measure => have := HIK.out.1; omega
            case rel => exact ⟨i + 1, q, by go_num, Lib.hid ⟨by have := HIK.out.1; omega, by have := HIK.out.2.1; omega, HFO.out, vals, HO.out, HZ.out⟩⟩
          | true =>
            have hni := fstB_iff.1 hfb
            have hnq : ¬ comp.getD i 0 < q := fun h => by
              rcases HF3.out.1 h with h | h
              · omega
              · exact hni h
            have hq : comp.getD i 0 = q := by have := HF2.out; omega
            have hfo := HF1.out
            rw [if_neg hnq] at hfo
            have hg0 := grpZ_none (sl := sl) hfb
            rw [hq] at hg0
            have hmu : ∀ j, j < n → (rB (PE sl R) i j && rB (PE sl R) j i) = decide (comp.getD j 0 = q) := fun j hj => by rw [mut_iff HCO.out HIK.out.2.2.1 hj, hq]
            have HFO := Lib.hid hfo
            have HG0 := Lib.hid hg0
            have HMU := Lib.hid hmu
            clear hfb hni hnq hq hfo hg0 hmu HF1 HF2 HF3
            obtain ⟨wz, hwz⟩ : ∃ wz, wr = wz := ⟨_, rfl⟩
            rw [hwz] at HO HZ HCI HCX HCR HVW HXW q0 ⊢
            clear hwz
            go_wp2_with fail
            go_loopg [8, 9] (n - i) (fun kq v8 v9 w' => ∃ j : Nat, v9 = .int .i64 (j : Int) ∧ Hid (j + kq = n ∧ i ≤ j ∧ One wz 3 1 v8 (grpZ (comp.take j) (sl.take j) q).length (ints (grpZ (comp.take j) (sl.take j) q)) w'))
            case atStart => exact ⟨i, rfl, Lib.hid ⟨by have := HIK.out.2.2.1; omega, Nat.le_refl _, by rw [HG0.out]; exact One.start⟩⟩
            case round =>
              clear q0
              obtain ⟨j, rfl, hI⟩ := hrel
              obtain ⟨hjk, hij, hO8⟩ := hI.out
              clear hI
              have q0 := (HXW.out.below hO8.b HXW.out.lt).cell 0 rfl
              by_cases hj : j < n
              · obtain ⟨k2, rfl⟩ : ∃ k2, gk = k2 + 1 := ⟨gk - 1, by omega⟩
                obtain ⟨_, Bj, cBj, hbe, cj, cjx⟩ := (HCR.out.below hO8.b) j hj
                cases hbe
                have ci := keep_at hO8.b HCI.out
                have x1 := keep_at hO8.b (HCX.out j hj)
                have x2 := cjx i HIK.out.2.2.1
                have hmu := HMU.out j hj
                obtain ⟨y, hy⟩ : ∃ y, sl[j]? = some y := ⟨_, List.getElem?_eq_getElem (by have := HN.out; omega)⟩
                obtain ⟨ba, rfl, cy⟩ := (RdI.below HVW.out hO8.b) j y hy
                have hup := grpZ_up (comp := comp) (sl := sl) (c := q) (j := j) (by have := HIK.out.2.2.2; omega) (by have := HN.out; omega)
                rw [show sl.getD j 0 = y by rw [List.getD_eq_getElem?_getD, hy]; rfl] at hup
                obtain ⟨r1, hr1⟩ : ∃ r1, rB (PE sl R) i j = r1 := ⟨_, rfl⟩
                obtain ⟨r2, hr2⟩ : ∃ r2, rB (PE sl R) j i = r2 := ⟨_, rfl⟩
                rw [hr1] at x1 hmu
                rw [hr2] at x2 hmu
                obtain ⟨g8, hg8⟩ : ∃ g8, grpZ (comp.take j) (sl.take j) q = g8 := ⟨_, rfl⟩
                have hg8n : g8.length ≤ 1000 := by
                  rw [← hg8]
                  refine Nat.le_trans (grpZ_length _ _ _) ?_
                  rw [List.length_take]
                  omega
                rw [hg8] at hO8 hup
                have HO8 := Lib.hid hO8
                have HUP := Lib.hid hup
                have HJ := Lib.hid (show j + (k2 + 1) = n ∧ i ≤ j from ⟨hjk, hij⟩)
                have k0 : (0 : Int) ≤ (j : Int) := by omega
                have k1' : (j : Int) < (n : Int) := by omega
                by_cases hjq : comp.getD j 0 = q
                · rw [decide_eq_true hjq] at hmu
                  have hr12 := Bool.and_eq_true_iff.1 hmu
                  have HQ := Lib.hid hjq
                  rw [hr12.1] at x1
                  rw [hr12.2] at x2
                  clear hmu hr1 hr2 hr12 cjx hjk hij hj hjq hup hO8 hg8 hy r1 r2
                  go_wp2_with ((at_builtin; (refine wpList_append_any rfl (.tmp 70) (.tmp 76) 22 rfl wz.heap.size 3 i1 (.int .i64 0) 1 8 Try.underlying22 hi1 hz1 hs1 hy1 rfl (by omega) _ _ _ rfl (HO8.out.r.alloc (.cells #[.int .i64 y] 3)) _ rfl 1 [.int .i64 y] (RdV.lit wr #[.int .i64 y] 3 1 1 1 rfl (by simp [Value.oneCell'])) (by unfold maxLen; omega) (by omega) (by have := HO8.out.b.size; simp; omega) ?_; intro v8 w8 ho hg hn; have hone := (HO8.out.below ((Below.refl _ _).alloc (Nat.le_refl _) (.cells #[.int .i64 y] 3))).grow ho hg; have HO9 := Lib.hid hone; clear ho hg hn hone HO8)))
                  go_roundg k2
                  case measure => have := HJ.out.1; omega
                  case rel =>
                    refine ⟨j + 1, by go_num, Lib.hid ⟨by have := HJ.out.1; omega, by have := HJ.out.2; omega, ?_⟩⟩
                    rw [HUP.out, if_pos HQ.out, List.length_append, List.length_singleton, ← ints_snoc]
                    exact HO9.out
                · rw [decide_eq_false hjq] at hmu
                  have HQ := Lib.hid hjq
                  clear hr1 hr2 cjx hjk hij hj hjq hup hO8 hg8 hy
                  have HREL := Lib.hid (show One wz 3 1 u8 (grpZ (comp.take (j + 1)) (sl.take (j + 1)) q).length (ints (grpZ (comp.take (j + 1)) (sl.take (j + 1)) q)) wr by
                    rw [HUP.out, if_neg HQ.out, List.append_nil]; exact HO8.out)
                  cases r1 <;> cases r2
                  case true.true => cases hmu
                  all_goals clear hmu
                  all_goals go_wp2
                  all_goals go_roundg k2
                  all_goals first
                    | (have := HJ.out.1; omega)
                    | exact ⟨j + 1, by go_num, Lib.hid ⟨by have := HJ.out.1; omega, by have := HJ.out.2; omega, HREL.out⟩⟩
              · obtain rfl : n = j := by omega
                rw [List.take_of_length_le (by have := HIK.out.2.2.2; omega), List.take_of_length_le (by have := HN.out; omega)] at hO8
                obtain ⟨A8, c8, rfl⟩ := own_slice hO8.r
                have hzn := HZ.out.snoc hO8.b (Nat.le_refl _) HO.out.b.size hO8.r
                have hrg : (List.range q).map (grpZ comp sl) ++ [grpZ comp sl q] = (List.range (q + 1)).map (grpZ comp sl) := by rw [List.range_succ, List.map_append]; rfl
                rw [hrg] at hzn
                obtain ⟨n8, hn8⟩ : ∃ n8, (grpZ comp sl q).length = n8 := ⟨_, rfl⟩
                rw [hn8] at hzn ⊢
                have HZN := Lib.hid hzn
                have HON := Lib.hid (HO.out.below hO8.b)
                have hqn : q ≤ 1000 := by have := HIK.out.2.1; omega
                clear hO8 hzn hrg hn8 hjk hij hj
                go_wp2_with ((at_builtin; (refine wpList_append_any rfl (.tmp 78) (.tmp 80) 27 rfl w1.heap.size 22 i3 (.slice none 0 0) 1 24 Try.underlying27 hi3 hz3 hs3 hy3 rfl (by omega) _ _ _ rfl (HON.out.r.alloc (.cells #[.slice A8 n8 c8] 22)) _ rfl 1 [.slice A8 n8 c8] (RdV.lit wr #[.slice A8 n8 c8] 22 1 1 1 rfl (by simp [Value.oneCell'])) (by unfold maxLen; omega) (by omega) (by have := HON.out.b.size; simp; omega) ?_; intro v4 w4 ho hg hn; have hone := (HON.out.below ((Below.refl _ _).alloc (Nat.le_refl _) (.cells #[.slice A8 n8 c8] 22))).grow ho hg; have hzz := (HZN.out.below ((Below.refl _ _).alloc (Nat.le_refl _) (.cells #[.slice A8 n8 c8] 22))).other (HON.out.r.alloc (.cells #[.slice A8 n8 c8] 22)) (by decide) hg; have HO4 := Lib.hid hone; have HZ4 := Lib.hid hzz; clear ho hg hn hone hzz)))
                go_roundg k1
                case measure => have := HIK.out.1; omega
                case rel => exact ⟨i + 1, q + 1, by go_num, Lib.hid ⟨by have := HIK.out.1; omega, by have := HIK.out.2.1; omega, HFO.out, _, HO4.out, HZ4.out⟩⟩
    · obtain rfl : n = i := by omega
      rw [List.take_of_length_le (by omega)] at hfo
      obtain rfl : m = q := Option.some.inj (HCO.out.2.1.symm.trans hfo)
      obtain ⟨A', c', rfl⟩ := own_slice hO.r
      have hvl : vals.length = m := by have := hO.r.1; omega
      have hrd : RdL wr A' (ofL comp sl m) := by
        intro k r hk
        have hkm : k < m := by have := (List.getElem?_eq_some_iff.1 hk).1; simpa [ofL] using this
        obtain ⟨g, rfl, _, hcc⟩ := cell_flat hO.r (by omega)
        obtain ⟨u, hu⟩ : ∃ u, vals[k]? = some u := ⟨_, List.getElem?_eq_getElem (by omega)⟩
        obtain ⟨B, cB, rfl, hrb⟩ := hZ.rd hu hk
        exact ⟨g, B, cB, rfl, hcc k _ hu, hrb⟩
      have HRD := Lib.hid hrd
      have HO := Lib.hid hO
      clear hO hZ hvl hrd hfo hik hqi hcn hi
      go_wp2
      go_ret
      exact ⟨A', c', rfl, HRD.out, HB1.out.trans (HO.out.b.mono HB1.out.size)⟩

end Go.Proofs.Ythlmffjafeodlaa.Lw

/- The references' Acyclic, walked. -/
namespace Go.Proofs.Ythlmffjafeodlaa.Lw
open Go Go.RowKit Go.Proofs.Ythlmffjafeodlaa.Mem Go.Proofs.Ythlmffjafeodlaa.Sl Go.Proofs.Ythlmffjafeodlaa.Scc Go.Proofs.Ythlmffjafeodlaa.Tj Go.Proofs.YthlmffjafeodlaaW.PrintWords Go.Proofs.YthlmffjafeodlaaW.PrintLast
attribute [local go_sem ↓] Go.wp_at_zero Go.wp_at_succ
set_option linter.unusedSimpArgs false
set_option linter.unusedVariables false

def tb20_4.T4 : Bool × List (List Nat × List Nat) := (true, [([], []), ([0], [0]), ([], []), ([1, 2], [1, 2]), ([3], [3]), ([4], [4]), ([], []), ([6], [6]), ([], []), ([7, 8], [7, 8]), ([9], [9]), ([10], [10]), ([5, 11], [5, 11])])
def tb20_4.B4 : List Nat := [0, 1, 0, 7, 15, 31, 0, 64, 0, 448, 960, 1984, 4095]
theorem tb20_4.tab4 : rtab .any (opsOf Try.f20 4) = tb20_4.T4 := by kernel_rfl
theorem tb20_4.bits4 : waitsOk tb20_4.T4.2 tb20_4.B4 = true := by kernel_rfl
def tb20_6.T6 : Bool × List (List Nat × List Nat) := (true, [([], []), ([0], [0]), ([1], [1]), ([], []), ([3], [3]), ([4], [4]), ([2, 5], [2, 5]), ([6, 1, 0, 1, 2, 3, 4, 5, 6], [6])])
def tb20_6.B6 : List Nat := [0, 1, 3, 0, 8, 24, 63, 127]
theorem tb20_6.tab6 : rtab .any (opsOf Try.f20 6) = tb20_6.T6 := by kernel_rfl
theorem tb20_6.bits6 : waitsOk tb20_6.T6.2 tb20_6.B6 = true := by kernel_rfl
set_option maxHeartbeats 8000000 in
set_option maxRecDepth 100000 in
theorem acyR_calls (w : World) (A AE : Option Addr) (cg ce m : Nat) (sl : List Int) (R : List (Int × Int)) (comp : List Nat) (hv : RdI w A sl) (he : RdE w AE R) (hs : sl.Pairwise (· < ·)) (hgood : good sl R = true) (hco : CompOf sl.length (PE sl R) comp m) (hl : sl.length ≤ 1000) (hr : R.length ≤ 100000) :
    Calls Try.prog 20 #[gV A sl.length cg (.slice AE R.length ce)] w fun e w' => e = .returned (.bool (acyB R m sl.length)) ∧ Below w.heap.size w w' := by
  obtain ⟨n, hn⟩ : ∃ n, sl.length = n := ⟨_, rfl⟩
  have hof := fun (W : World) (hW : Below w.heap.size w W) => ofR_calls W A AE cg ce m sl R comp (hv.below hW) (he.below hW) hs hgood hco hl hr
  rw [hn] at hl hof ⊢
  obtain ⟨ans, hans⟩ : ∃ ans, acyB R m n = ans := ⟨_, rfl⟩
  rw [hans]
  unfold gV at hof ⊢
  have HE := Lib.hid he
  have HOFW := Lib.hid hof
  have HANS := Lib.hid hans
  clear hv he hs hgood hn hco hof hans
  go_enter Try.func20, Try.ntmps20
  go_wp2_with fail
  refine gen_loopw (fun W => At W w.heap.size [.slice A n cg, .slice AE R.length ce, .int .i64 0, .int .i64 0] 44 ∧ Below w.heap.size w W) ?_ ?_
  · exact ⟨At.made rfl rfl, (Below.refl _ _).alloc (Nat.le_refl _) _⟩
  obtain ⟨gx, hgx⟩ : ∃ gx, w.heap.size = gx := ⟨_, rfl⟩
  rw [hgx]
  rintro w3 ⟨hat, hb⟩
  rw [← hgx] at hb
  have HAT := Lib.hid hat
  have HB := Lib.hid hb
  clear hat hb hgx
  go_loopg [3] R.length (fun kq v3 w' => ∃ j : Nat, v3 = .int .i64 (j : Int) ∧ Hid (j + kq = R.length ∧ (∃ q, w' = w3.drewN q) ∧ (R.take j).all (fun p => decide (p.1 ≠ p.2)) = true))
  case atStart => exact ⟨0, rfl, Lib.hid ⟨by omega, ⟨0, rfl⟩, by simp⟩⟩
  case round =>
    obtain ⟨j, rfl, hI⟩ := hrel
    obtain ⟨hjk, ⟨q, rfl⟩, hall⟩ := hI.out
    clear hI
    have q1 : (w3.drewN q).cell? ⟨gx, 1, none⟩ = some (.slice AE R.length ce) := HAT.out.cell 1 rfl
    by_cases hj : j < R.length
    · obtain ⟨k1, rfl⟩ : ∃ k1, gk = k1 + 1 := ⟨gk - 1, by omega⟩
      obtain ⟨⟨u, v⟩, hxx⟩ : ∃ x, R[j] = x := ⟨_, rfl⟩
      have hx : R[j]? = some (u, v) := by rw [List.getElem?_eq_getElem hj, hxx]
      obtain ⟨be, rfl, qu', qv'⟩ := (HE.out.below HB.out) j u v hx
      have qu : (w3.drewN q).cell? ⟨be, j * 4 + 1, none⟩ = some (.int .i64 u) := qu'
      have qv : (w3.drewN q).cell? ⟨be, j * 4 + 2, none⟩ = some (.int .i64 v) := qv'
      have hsn : (R.take (j + 1)).all (fun p => decide (p.1 ≠ p.2)) = ((R.take j).all (fun p => decide (p.1 ≠ p.2)) && decide (u ≠ v)) := by rw [List.take_add_one, hx, List.all_append]; simp
      have j0 : (0 : Int) ≤ (j : Int) := by omega
      have j1 : (j : Int) < (R.length : Int) := by omega
      have j2 : (R.length : Int) ≤ 100000 := by omega
      by_cases huv : u = v
      · subst huv
        have HA := Lib.hid (show ans = false by
          rw [← HANS.out, acyB, if_neg]
          intro h
          have := List.all_eq_true.1 h _ (List.mem_of_getElem? hx)
          simp at this)
        have hb := HB.out
        have HBX := Lib.hid hb
        clear hsn hx hxx hall hjk qu' qv' hj hb
        go_upto_region 4 with (fail)
        refine start_ (n := 13) (S := fun w' => w'.cell? ⟨gx, 1, none⟩ = some (.slice (some ⟨be, 0, none⟩) R.length ce) ∧ w'.cell? ⟨be, j * 4 + 1, none⟩ = some (.int .i64 u) ∧ w'.cell? ⟨be, j * 4 + 2, none⟩ = some (.int .i64 u)) (ds := []) #[false, false, false, false, false, false, false, false, false, false, false, false, false] (by kernel_rfl) rfl rfl ⟨q1, qu, qv⟩ (fun hHeld => ?_)
        refine with_tabW tb20_4.tab4 tb20_4.bits4 (fun HT_ HW_ => ?_)
        refine pure_ (i := 0) (N := some 11) (v := ?_) (a' := ?_) #[true, false, false, false, false, false, false, false, false, false, false, false, false] rfl rfl (any_of HT_.out (by kernel_rfl)) (fun _ _ _ h => h) (Or.inl ⟨by rfl, ?_⟩) ?_ ?_
        rotate_left
        · intro w'
          go_simp
          with_reducible rfl
        rotate_left
        · simp only [Act.put, List.setIfInBounds_toArray, List.set_cons_zero, List.set_cons_succ, i64_w, i32_w]
          rfl
        refine pure_ (i := 2) (N := some 13) (v := ?_) (a' := ?_) #[true, false, true, false, false, false, false, false, false, false, false, false, false] rfl rfl (any_of HT_.out (by kernel_rfl)) (fun _ _ _ h => h) (Or.inl ⟨by rfl, ?_⟩) ?_ ?_
        rotate_left
        · intro w'
          go_simp
          with_reducible rfl
        rotate_left
        · simp only [Act.put, List.setIfInBounds_toArray, List.set_cons_zero, List.set_cons_succ, i64_w, i32_w]
          rfl
        refine pure_ (i := 6) (N := some 17) (v := ?_) (a' := ?_) #[true, false, true, false, false, false, true, false, false, false, false, false, false] rfl rfl (any_of HT_.out (by kernel_rfl)) (fun _ _ _ h => h) (Or.inl ⟨by rfl, ?_⟩) ?_ ?_
        rotate_left
        · intro w'
          go_simp
          with_reducible rfl
        rotate_left
        · simp only [Act.put, List.setIfInBounds_toArray, List.set_cons_zero, List.set_cons_succ, i64_w, i32_w]
          rfl
        refine pure_ (i := 8) (N := some 19) (v := ?_) (a' := ?_) #[true, false, true, false, false, false, true, false, true, false, false, false, false] rfl rfl (any_of HT_.out (by kernel_rfl)) (fun _ _ _ h => h) (Or.inl ⟨by rfl, ?_⟩) ?_ ?_
        rotate_left
        · intro w'
          go_simp
          with_reducible rfl
        rotate_left
        · simp only [Act.put, List.setIfInBounds_toArray, List.set_cons_zero, List.set_cons_succ, i64_w, i32_w]
          rfl
        refine take_ (i := 1) (N := some 12) (v := ?_) (a' := ?_) #[true, true, true, false, false, false, true, false, true, false, false, false, false] rfl rfl (take_ofW HT_.out HW_.out (by kernel_rfl)) (fun _ _ _ h => h) (Or.inl ⟨by rfl, ?_⟩) hHeld ?_ ?_
        rotate_left
        · rintro w' ⟨s0, s1, s2⟩
          go_simp
          with_reducible rfl
        rotate_left
        · simp only [Act.put, List.setIfInBounds_toArray, List.set_cons_zero, List.set_cons_succ, i64_w, i32_w]
          rfl
        refine pure_ (i := 3) (N := some 14) (v := ?_) (a' := ?_) #[true, true, true, true, false, false, true, false, true, false, false, false, false] rfl rfl (any_of HT_.out (by kernel_rfl)) (fun _ _ _ h => h) (Or.inl ⟨by rfl, ?_⟩) ?_ ?_
        rotate_left
        · intro w'
          go_simp
          with_reducible rfl
        rotate_left
        · simp only [Act.put, List.setIfInBounds_toArray, List.set_cons_zero, List.set_cons_succ, i64_w, i32_w]
          rfl
        refine pure_ (i := 4) (N := some 15) (v := ?_) (a' := ?_) #[true, true, true, true, true, false, true, false, true, false, false, false, false] rfl rfl (any_of HT_.out (by kernel_rfl)) (fun _ _ _ h => h) (Or.inl ⟨by rfl, ?_⟩) ?_ ?_
        rotate_left
        · intro w'
          go_simp
          with_reducible rfl
        rotate_left
        · simp only [Act.put, List.setIfInBounds_toArray, List.set_cons_zero, List.set_cons_succ, i64_w, i32_w]
          rfl
        refine take_ (i := 5) (N := some 16) (v := ?_) (a' := ?_) #[true, true, true, true, true, true, true, false, true, false, false, false, false] rfl rfl (take_ofW HT_.out HW_.out (by kernel_rfl)) (fun _ _ _ h => h) (Or.inl ⟨by rfl, ?_⟩) hHeld ?_ ?_
        rotate_left
        · rintro w' ⟨s0, s1, s2⟩
          go_simp
          with_reducible rfl
        rotate_left
        · simp only [Act.put, List.setIfInBounds_toArray, List.set_cons_zero, List.set_cons_succ, i64_w, i32_w]
          rfl
        refine take_ (i := 7) (N := some 18) (v := ?_) (a' := ?_) #[true, true, true, true, true, true, true, true, true, false, false, false, false] rfl rfl (take_ofW HT_.out HW_.out (by kernel_rfl)) (fun _ _ _ h => h) (Or.inl ⟨by rfl, ?_⟩) hHeld ?_ ?_
        rotate_left
        · rintro w' ⟨s0, s1, s2⟩
          go_simp
          with_reducible rfl
        rotate_left
        · simp only [Act.put, List.setIfInBounds_toArray, List.set_cons_zero, List.set_cons_succ, i64_w, i32_w]
          rfl
        refine pure_ (i := 9) (N := some 20) (v := ?_) (a' := ?_) #[true, true, true, true, true, true, true, true, true, true, false, false, false] rfl rfl (any_of HT_.out (by kernel_rfl)) (fun _ _ _ h => h) (Or.inl ⟨by rfl, ?_⟩) ?_ ?_
        rotate_left
        · intro w'
          go_simp
          with_reducible rfl
        rotate_left
        · simp only [Act.put, List.setIfInBounds_toArray, List.set_cons_zero, List.set_cons_succ, i64_w, i32_w]
          rfl
        refine pure_ (i := 10) (N := some 21) (v := ?_) (a' := ?_) #[true, true, true, true, true, true, true, true, true, true, true, false, false] rfl rfl (any_of HT_.out (by kernel_rfl)) (fun _ _ _ h => h) (Or.inl ⟨by rfl, ?_⟩) ?_ ?_
        rotate_left
        · intro w'
          go_simp
          with_reducible rfl
        rotate_left
        · simp only [Act.put, List.setIfInBounds_toArray, List.set_cons_zero, List.set_cons_succ, i64_w, i32_w]
          rfl
        refine take_ (i := 11) (N := some 22) (v := ?_) (a' := ?_) #[true, true, true, true, true, true, true, true, true, true, true, true, false] rfl rfl (take_ofW HT_.out HW_.out (by kernel_rfl)) (fun _ _ _ h => h) (Or.inl ⟨by rfl, ?_⟩) hHeld ?_ ?_
        rotate_left
        · rintro w' ⟨s0, s1, s2⟩
          go_simp
          with_reducible rfl
        rotate_left
        · simp only [Act.put, List.setIfInBounds_toArray, List.set_cons_zero, List.set_cons_succ, i64_w, i32_w]
          rfl
        refine pure_ (i := 12) (N := some 23) (v := ?_) (a' := ?_) #[true, true, true, true, true, true, true, true, true, true, true, true, true] rfl rfl (any_of HT_.out (by kernel_rfl)) (fun _ _ _ h => h) (Or.inl ⟨by rfl, ?_⟩) ?_ ?_
        rotate_left
        · intro w'
          go_simp
          with_reducible rfl
        rotate_left
        · simp only [Act.put, List.setIfInBounds_toArray, List.set_cons_zero, List.set_cons_succ, i64_w, i32_w]
          rfl
        refine done_ (done_of HT_.out (by kernel_rfl)) ?_
        clear hHeld HT_ HW_
        go_wp2
        go_ret
        have hb := HBX.out
        exact ⟨by rw [HA.out]; rfl, ⟨hb.os, hb.tape, hb.output, hb.size, hb.block⟩⟩
      · have e1 : (u == v) = false := beq_eq_false_iff_ne.2 huv
        have HSN := Lib.hid (show (R.take (j + 1)).all (fun p => decide (p.1 ≠ p.2)) = true by rw [hsn, hall]; simpa using huv)
        have HJK := Lib.hid hjk
        clear hsn hx hxx hall hjk qu' qv' hj huv
        go_upto_region 4 with (fail)
        refine start_ (n := 13) (S := fun w' => w'.cell? ⟨gx, 1, none⟩ = some (.slice (some ⟨be, 0, none⟩) R.length ce) ∧ w'.cell? ⟨be, j * 4 + 1, none⟩ = some (.int .i64 u) ∧ w'.cell? ⟨be, j * 4 + 2, none⟩ = some (.int .i64 v)) (ds := []) #[false, false, false, false, false, false, false, false, false, false, false, false, false] (by kernel_rfl) rfl rfl ⟨q1, qu, qv⟩ (fun hHeld => ?_)
        refine with_tabW tb20_4.tab4 tb20_4.bits4 (fun HT_ HW_ => ?_)
        refine pure_ (i := 0) (N := some 11) (v := ?_) (a' := ?_) #[true, false, false, false, false, false, false, false, false, false, false, false, false] rfl rfl (any_of HT_.out (by kernel_rfl)) (fun _ _ _ h => h) (Or.inl ⟨by rfl, ?_⟩) ?_ ?_
        rotate_left
        · intro w'
          go_simp
          with_reducible rfl
        rotate_left
        · simp only [Act.put, List.setIfInBounds_toArray, List.set_cons_zero, List.set_cons_succ, i64_w, i32_w]
          rfl
        refine pure_ (i := 2) (N := some 13) (v := ?_) (a' := ?_) #[true, false, true, false, false, false, false, false, false, false, false, false, false] rfl rfl (any_of HT_.out (by kernel_rfl)) (fun _ _ _ h => h) (Or.inl ⟨by rfl, ?_⟩) ?_ ?_
        rotate_left
        · intro w'
          go_simp
          with_reducible rfl
        rotate_left
        · simp only [Act.put, List.setIfInBounds_toArray, List.set_cons_zero, List.set_cons_succ, i64_w, i32_w]
          rfl
        refine pure_ (i := 6) (N := some 17) (v := ?_) (a' := ?_) #[true, false, true, false, false, false, true, false, false, false, false, false, false] rfl rfl (any_of HT_.out (by kernel_rfl)) (fun _ _ _ h => h) (Or.inl ⟨by rfl, ?_⟩) ?_ ?_
        rotate_left
        · intro w'
          go_simp
          with_reducible rfl
        rotate_left
        · simp only [Act.put, List.setIfInBounds_toArray, List.set_cons_zero, List.set_cons_succ, i64_w, i32_w]
          rfl
        refine pure_ (i := 8) (N := some 19) (v := ?_) (a' := ?_) #[true, false, true, false, false, false, true, false, true, false, false, false, false] rfl rfl (any_of HT_.out (by kernel_rfl)) (fun _ _ _ h => h) (Or.inl ⟨by rfl, ?_⟩) ?_ ?_
        rotate_left
        · intro w'
          go_simp
          with_reducible rfl
        rotate_left
        · simp only [Act.put, List.setIfInBounds_toArray, List.set_cons_zero, List.set_cons_succ, i64_w, i32_w]
          rfl
        refine take_ (i := 1) (N := some 12) (v := ?_) (a' := ?_) #[true, true, true, false, false, false, true, false, true, false, false, false, false] rfl rfl (take_ofW HT_.out HW_.out (by kernel_rfl)) (fun _ _ _ h => h) (Or.inl ⟨by rfl, ?_⟩) hHeld ?_ ?_
        rotate_left
        · rintro w' ⟨s0, s1, s2⟩
          go_simp
          with_reducible rfl
        rotate_left
        · simp only [Act.put, List.setIfInBounds_toArray, List.set_cons_zero, List.set_cons_succ, i64_w, i32_w]
          rfl
        refine pure_ (i := 3) (N := some 14) (v := ?_) (a' := ?_) #[true, true, true, true, false, false, true, false, true, false, false, false, false] rfl rfl (any_of HT_.out (by kernel_rfl)) (fun _ _ _ h => h) (Or.inl ⟨by rfl, ?_⟩) ?_ ?_
        rotate_left
        · intro w'
          go_simp
          with_reducible rfl
        rotate_left
        · simp only [Act.put, List.setIfInBounds_toArray, List.set_cons_zero, List.set_cons_succ, i64_w, i32_w]
          rfl
        refine pure_ (i := 4) (N := some 15) (v := ?_) (a' := ?_) #[true, true, true, true, true, false, true, false, true, false, false, false, false] rfl rfl (any_of HT_.out (by kernel_rfl)) (fun _ _ _ h => h) (Or.inl ⟨by rfl, ?_⟩) ?_ ?_
        rotate_left
        · intro w'
          go_simp
          with_reducible rfl
        rotate_left
        · simp only [Act.put, List.setIfInBounds_toArray, List.set_cons_zero, List.set_cons_succ, i64_w, i32_w]
          rfl
        refine take_ (i := 5) (N := some 16) (v := ?_) (a' := ?_) #[true, true, true, true, true, true, true, false, true, false, false, false, false] rfl rfl (take_ofW HT_.out HW_.out (by kernel_rfl)) (fun _ _ _ h => h) (Or.inl ⟨by rfl, ?_⟩) hHeld ?_ ?_
        rotate_left
        · rintro w' ⟨s0, s1, s2⟩
          go_simp
          with_reducible rfl
        rotate_left
        · simp only [Act.put, List.setIfInBounds_toArray, List.set_cons_zero, List.set_cons_succ, i64_w, i32_w]
          rfl
        refine take_ (i := 7) (N := some 18) (v := ?_) (a' := ?_) #[true, true, true, true, true, true, true, true, true, false, false, false, false] rfl rfl (take_ofW HT_.out HW_.out (by kernel_rfl)) (fun _ _ _ h => h) (Or.inl ⟨by rfl, ?_⟩) hHeld ?_ ?_
        rotate_left
        · rintro w' ⟨s0, s1, s2⟩
          go_simp
          with_reducible rfl
        rotate_left
        · simp only [Act.put, List.setIfInBounds_toArray, List.set_cons_zero, List.set_cons_succ, i64_w, i32_w]
          rfl
        refine pure_ (i := 9) (N := some 20) (v := ?_) (a' := ?_) #[true, true, true, true, true, true, true, true, true, true, false, false, false] rfl rfl (any_of HT_.out (by kernel_rfl)) (fun _ _ _ h => h) (Or.inl ⟨by rfl, ?_⟩) ?_ ?_
        rotate_left
        · intro w'
          go_simp
          with_reducible rfl
        rotate_left
        · simp only [Act.put, List.setIfInBounds_toArray, List.set_cons_zero, List.set_cons_succ, i64_w, i32_w]
          rfl
        refine pure_ (i := 10) (N := some 21) (v := ?_) (a' := ?_) #[true, true, true, true, true, true, true, true, true, true, true, false, false] rfl rfl (any_of HT_.out (by kernel_rfl)) (fun _ _ _ h => h) (Or.inl ⟨by rfl, ?_⟩) ?_ ?_
        rotate_left
        · intro w'
          go_simp
          with_reducible rfl
        rotate_left
        · simp only [Act.put, List.setIfInBounds_toArray, List.set_cons_zero, List.set_cons_succ, i64_w, i32_w]
          rfl
        refine take_ (i := 11) (N := some 22) (v := ?_) (a' := ?_) #[true, true, true, true, true, true, true, true, true, true, true, true, false] rfl rfl (take_ofW HT_.out HW_.out (by kernel_rfl)) (fun _ _ _ h => h) (Or.inl ⟨by rfl, ?_⟩) hHeld ?_ ?_
        rotate_left
        · rintro w' ⟨s0, s1, s2⟩
          go_simp
          with_reducible rfl
        rotate_left
        · simp only [Act.put, List.setIfInBounds_toArray, List.set_cons_zero, List.set_cons_succ, i64_w, i32_w]
          rfl
        refine pure_ (i := 12) (N := some 23) (v := ?_) (a' := ?_) #[true, true, true, true, true, true, true, true, true, true, true, true, true] rfl rfl (any_of HT_.out (by kernel_rfl)) (fun _ _ _ h => h) (Or.inl ⟨by rfl, ?_⟩) ?_ ?_
        rotate_left
        · intro w'
          go_simp
          with_reducible rfl
        rotate_left
        · simp only [Act.put, List.setIfInBounds_toArray, List.set_cons_zero, List.set_cons_succ, i64_w, i32_w]
          rfl
        refine done_ (done_of HT_.out (by kernel_rfl)) ?_
        clear hHeld HT_ HW_
        clear q1 qu qv
        go_wp2
        go_roundg k1
        case measure => have := HJK.out; omega
        case rel => exact ⟨j + 1, by go_num, Lib.hid ⟨by have := HJK.out; omega, ⟨q + 1, rfl⟩, HSN.out⟩⟩
    · obtain rfl : j = R.length := by omega
      rw [List.take_length] at hall
      have HA := Lib.hid (show ans = decide (m = n) by rw [← HANS.out, acyB, if_pos hall])
      have hbd : Below w.heap.size w (w3.drewN q).drew := ⟨HB.out.os, HB.out.tape, HB.out.output, HB.out.size, HB.out.block⟩
      have HOF := Lib.hid (HOFW.out _ hbd)
      have q0 : (w3.drewN q).cell? ⟨gx, 0, none⟩ = some (.slice A n cg) := HAT.out.cell 0 rfl
      have q2 : (w3.drewN q).cell? ⟨gx, 2, none⟩ = some (.int .i64 0) := HAT.out.cell 2 rfl
      have q3 : (w3.drewN q).cell? ⟨gx, 3, none⟩ = some (.int .i64 0) := HAT.out.cell 3 rfl
      have HBD := Lib.hid hbd
      obtain ⟨wr, hwr⟩ : ∃ wr, w3.drewN q = wr := ⟨_, rfl⟩
      rw [hwr] at q0 q1 q2 q3 HOF HBD ⊢
      clear hall hjk hj hbd hwr HOFW
      by_cases hmn : m = n
      · have e1 : ((m : Int) == (n : Int)) = true := by rw [hmn]; simp
        go_upto_region 6 with (fail)
        refine start_ (n := 8) (S := fun w' => w'.cell? ⟨gx, 0, none⟩ = some (.slice A n cg) ∧ w'.cell? ⟨gx, 1, none⟩ = some (.slice AE R.length ce) ∧ w'.cell? ⟨gx, 2, none⟩ = some (.int .i64 0) ∧ w'.cell? ⟨gx, 3, none⟩ = some (.int .i64 0)) (ds := []) #[false, false, false, false, false, false, false, false] (by kernel_rfl) rfl rfl ⟨q0, q1, q2, q3⟩ (fun hHeld => ?_)
        refine with_tabW tb20_6.tab6 tb20_6.bits6 (fun HT_ HW_ => ?_)
        refine pure_ (i := 3) (N := some 27) (v := ?_) (a' := ?_) #[false, false, false, true, false, false, false, false] rfl rfl (any_of HT_.out (by kernel_rfl)) (fun _ _ _ h => h) (Or.inl ⟨by rfl, ?_⟩) ?_ ?_
        rotate_left
        · intro w'
          go_simp
          with_reducible rfl
        rotate_left
        · simp only [Act.put, List.setIfInBounds_toArray, List.set_cons_zero, List.set_cons_succ, i64_w, i32_w]
          rfl
        refine take_ (i := 0) (N := some 24) (v := ?_) (a' := ?_) #[true, false, false, true, false, false, false, false] rfl rfl (take_ofW HT_.out HW_.out (by kernel_rfl)) (fun _ _ _ h => h) (Or.inl ⟨by rfl, ?_⟩) hHeld ?_ ?_
        rotate_left
        · rintro w' ⟨s0, s1, s2, s3⟩
          go_simp
          with_reducible rfl
        rotate_left
        · simp only [Act.put, List.setIfInBounds_toArray, List.set_cons_zero, List.set_cons_succ, i64_w, i32_w]
          rfl
        refine take_ (i := 4) (N := some 28) (v := ?_) (a' := ?_) #[true, false, false, true, true, false, false, false] rfl rfl (take_ofW HT_.out HW_.out (by kernel_rfl)) (fun _ _ _ h => h) (Or.inl ⟨by rfl, ?_⟩) hHeld ?_ ?_
        rotate_left
        · rintro w' ⟨s0, s1, s2, s3⟩
          go_simp
          with_reducible rfl
        rotate_left
        · simp only [Act.put, List.setIfInBounds_toArray, List.set_cons_zero, List.set_cons_succ, i64_w, i32_w]
          rfl
        refine pure_ (i := 5) (N := some 29) (v := ?_) (a' := ?_) #[true, false, false, true, true, true, false, false] rfl rfl (any_of HT_.out (by kernel_rfl)) (fun _ _ _ h => h) (Or.inl ⟨by rfl, ?_⟩) ?_ ?_
        rotate_left
        · intro w'
          go_simp
          with_reducible rfl
        rotate_left
        · simp only [Act.put, List.setIfInBounds_toArray, List.set_cons_zero, List.set_cons_succ, i64_w, i32_w]
          rfl
        refine one_ (i := 1) (N := some 25) #[true, true, false, true, true, true, false, false] rfl rfl (one_of HT_.out (by kernel_rfl)) (by decide) (fun K hK => ?_)
        refine goes_ Try.func18 (by kernel_rfl) rfl #[.agg #[.slice A n cg, .slice AE R.length ce, .int .i64 0, .int .i64 0]] (by rfl) rfl rfl (by simp only [List.map_toArray, List.map_cons, List.map_nil]; rfl) ?_
        with_reducible refine (HOF.out).mono ?_
        rintro e wa ⟨A9, c9, rfl, _, hba⟩
        refine ⟨_, rfl, ?_⟩
        have hbw : Below wr.heap.size wr wa := ⟨hba.os, hba.tape, hba.output, hba.size, hba.block⟩
        refine hK.out _ _ ⟨(keep_at hbw q0), (keep_at hbw q1), (keep_at hbw q2), (keep_at hbw q3)⟩ (fun hHeld => ?_)
        clear hK K
        refine norm_ (a' := ?_) ?_ ?_
        rotate_left
        · show Act.put _ (some 25) _ = _
          simp only [Act.put, List.setIfInBounds_toArray, List.set_cons_zero, List.set_cons_succ, i64_w, i32_w]
          rfl
        refine pure_ (i := 2) (N := some 26) (v := ?_) (a' := ?_) #[true, true, true, true, true, true, false, false] rfl rfl (any_of HT_.out (by kernel_rfl)) (fun _ _ _ h => h) (Or.inl ⟨by rfl, ?_⟩) ?_ ?_
        rotate_left
        · intro w'
          go_simp
          with_reducible rfl
        rotate_left
        · simp only [Act.put, List.setIfInBounds_toArray, List.set_cons_zero, List.set_cons_succ, i64_w, i32_w]
          rfl
        refine pure_ (i := 6) (N := some 30) (v := ?_) (a' := ?_) #[true, true, true, true, true, true, true, false] rfl rfl (any_of HT_.out (by kernel_rfl)) (fun _ _ _ h => h) (Or.inl ⟨by rfl, ?_⟩) ?_ ?_
        rotate_left
        · intro w'
          go_simp
          with_reducible rfl
        rotate_left
        · simp only [Act.put, List.setIfInBounds_toArray, List.set_cons_zero, List.set_cons_succ, i64_w, i32_w]
          rfl
        refine pure_ (i := 7) (N := some 2) (v := ?_) (a' := ?_) #[true, true, true, true, true, true, true, true] rfl rfl (any_of HT_.out (by kernel_rfl)) (fun _ _ _ h => h) (Or.inl ⟨by rfl, ?_⟩) ?_ ?_
        rotate_left
        · intro w'
          go_simp
          with_reducible rfl
        rotate_left
        · simp only [Act.put, List.setIfInBounds_toArray, List.set_cons_zero, List.set_cons_succ, i64_w, i32_w]
          rfl
        refine done_ (done_of HT_.out (by kernel_rfl)) ?_
        clear hHeld HT_ HW_
        go_wp2
        go_ret
        exact ⟨by rw [HA.out, decide_eq_true hmn]; rfl, HBD.out.trans (hba.mono HBD.out.size)⟩
      · have e1 : ((m : Int) == (n : Int)) = false := beq_eq_false_iff_ne.2 (by omega)
        go_upto_region 6 with (fail)
        refine start_ (n := 8) (S := fun w' => w'.cell? ⟨gx, 0, none⟩ = some (.slice A n cg) ∧ w'.cell? ⟨gx, 1, none⟩ = some (.slice AE R.length ce) ∧ w'.cell? ⟨gx, 2, none⟩ = some (.int .i64 0) ∧ w'.cell? ⟨gx, 3, none⟩ = some (.int .i64 0)) (ds := []) #[false, false, false, false, false, false, false, false] (by kernel_rfl) rfl rfl ⟨q0, q1, q2, q3⟩ (fun hHeld => ?_)
        refine with_tabW tb20_6.tab6 tb20_6.bits6 (fun HT_ HW_ => ?_)
        refine pure_ (i := 3) (N := some 27) (v := ?_) (a' := ?_) #[false, false, false, true, false, false, false, false] rfl rfl (any_of HT_.out (by kernel_rfl)) (fun _ _ _ h => h) (Or.inl ⟨by rfl, ?_⟩) ?_ ?_
        rotate_left
        · intro w'
          go_simp
          with_reducible rfl
        rotate_left
        · simp only [Act.put, List.setIfInBounds_toArray, List.set_cons_zero, List.set_cons_succ, i64_w, i32_w]
          rfl
        refine take_ (i := 0) (N := some 24) (v := ?_) (a' := ?_) #[true, false, false, true, false, false, false, false] rfl rfl (take_ofW HT_.out HW_.out (by kernel_rfl)) (fun _ _ _ h => h) (Or.inl ⟨by rfl, ?_⟩) hHeld ?_ ?_
        rotate_left
        · rintro w' ⟨s0, s1, s2, s3⟩
          go_simp
          with_reducible rfl
        rotate_left
        · simp only [Act.put, List.setIfInBounds_toArray, List.set_cons_zero, List.set_cons_succ, i64_w, i32_w]
          rfl
        refine take_ (i := 4) (N := some 28) (v := ?_) (a' := ?_) #[true, false, false, true, true, false, false, false] rfl rfl (take_ofW HT_.out HW_.out (by kernel_rfl)) (fun _ _ _ h => h) (Or.inl ⟨by rfl, ?_⟩) hHeld ?_ ?_
        rotate_left
        · rintro w' ⟨s0, s1, s2, s3⟩
          go_simp
          with_reducible rfl
        rotate_left
        · simp only [Act.put, List.setIfInBounds_toArray, List.set_cons_zero, List.set_cons_succ, i64_w, i32_w]
          rfl
        refine pure_ (i := 5) (N := some 29) (v := ?_) (a' := ?_) #[true, false, false, true, true, true, false, false] rfl rfl (any_of HT_.out (by kernel_rfl)) (fun _ _ _ h => h) (Or.inl ⟨by rfl, ?_⟩) ?_ ?_
        rotate_left
        · intro w'
          go_simp
          with_reducible rfl
        rotate_left
        · simp only [Act.put, List.setIfInBounds_toArray, List.set_cons_zero, List.set_cons_succ, i64_w, i32_w]
          rfl
        refine one_ (i := 1) (N := some 25) #[true, true, false, true, true, true, false, false] rfl rfl (one_of HT_.out (by kernel_rfl)) (by decide) (fun K hK => ?_)
        refine goes_ Try.func18 (by kernel_rfl) rfl #[.agg #[.slice A n cg, .slice AE R.length ce, .int .i64 0, .int .i64 0]] (by rfl) rfl rfl (by simp only [List.map_toArray, List.map_cons, List.map_nil]; rfl) ?_
        with_reducible refine (HOF.out).mono ?_
        rintro e wa ⟨A9, c9, rfl, _, hba⟩
        refine ⟨_, rfl, ?_⟩
        have hbw : Below wr.heap.size wr wa := ⟨hba.os, hba.tape, hba.output, hba.size, hba.block⟩
        refine hK.out _ _ ⟨(keep_at hbw q0), (keep_at hbw q1), (keep_at hbw q2), (keep_at hbw q3)⟩ (fun hHeld => ?_)
        clear hK K
        refine norm_ (a' := ?_) ?_ ?_
        rotate_left
        · show Act.put _ (some 25) _ = _
          simp only [Act.put, List.setIfInBounds_toArray, List.set_cons_zero, List.set_cons_succ, i64_w, i32_w]
          rfl
        refine pure_ (i := 2) (N := some 26) (v := ?_) (a' := ?_) #[true, true, true, true, true, true, false, false] rfl rfl (any_of HT_.out (by kernel_rfl)) (fun _ _ _ h => h) (Or.inl ⟨by rfl, ?_⟩) ?_ ?_
        rotate_left
        · intro w'
          go_simp
          with_reducible rfl
        rotate_left
        · simp only [Act.put, List.setIfInBounds_toArray, List.set_cons_zero, List.set_cons_succ, i64_w, i32_w]
          rfl
        refine pure_ (i := 6) (N := some 30) (v := ?_) (a' := ?_) #[true, true, true, true, true, true, true, false] rfl rfl (any_of HT_.out (by kernel_rfl)) (fun _ _ _ h => h) (Or.inl ⟨by rfl, ?_⟩) ?_ ?_
        rotate_left
        · intro w'
          go_simp
          with_reducible rfl
        rotate_left
        · simp only [Act.put, List.setIfInBounds_toArray, List.set_cons_zero, List.set_cons_succ, i64_w, i32_w]
          rfl
        refine pure_ (i := 7) (N := some 2) (v := ?_) (a' := ?_) #[true, true, true, true, true, true, true, true] rfl rfl (any_of HT_.out (by kernel_rfl)) (fun _ _ _ h => h) (Or.inl ⟨by rfl, ?_⟩) ?_ ?_
        rotate_left
        · intro w'
          go_simp
          with_reducible rfl
        rotate_left
        · simp only [Act.put, List.setIfInBounds_toArray, List.set_cons_zero, List.set_cons_succ, i64_w, i32_w]
          rfl
        refine done_ (done_of HT_.out (by kernel_rfl)) ?_
        clear hHeld HT_ HW_
        go_wp2
        go_ret
        exact ⟨by rw [HA.out, decide_eq_false hmn]; rfl, HBD.out.trans (hba.mono HBD.out.size)⟩

end Go.Proofs.Ythlmffjafeodlaa.Lw

/- The references' Order, walked. -/
namespace Go.Proofs.Ythlmffjafeodlaa.Lw
open Go Go.RowKit Go.Proofs.Ythlmffjafeodlaa.Mem Go.Proofs.Ythlmffjafeodlaa.Sl Go.Proofs.Ythlmffjafeodlaa.Scc Go.Proofs.Ythlmffjafeodlaa.Tj Go.Proofs.YthlmffjafeodlaaW.PrintWords Go.Proofs.YthlmffjafeodlaaW.PrintLast
attribute [local go_sem ↓] Go.wp_at_zero Go.wp_at_succ
set_option linter.unusedSimpArgs false
set_option linter.unusedVariables false

theorem RdL.headR {w : World} {A : Option Addr} {ls : List (List Int)} (h : RdL w A ls) {i : Nat} (hi : i < ls.length) (hne : ls[i] ≠ []) : ∃ b bb c, A = some ⟨b, 0, none⟩ ∧ w.cell? ⟨b, i, none⟩ = some (.slice (some ⟨bb, 0, none⟩) (ls[i]).length c) ∧ w.cell? ⟨bb, 0, none⟩ = some (.int .i64 ((ls[i]).headD 0)) := by
  obtain ⟨b, B, c, rfl, h1, h2⟩ := h i ls[i] (List.getElem?_eq_getElem hi)
  have h0 : (ls[i])[0]? = some ((ls[i]).headD 0) := by
    cases hr : ls[i] with
    | nil => exact absurd hr hne
    | cons a r => rfl
  obtain ⟨bb, rfl, h3⟩ := h2 0 _ h0
  exact ⟨b, bb, c, rfl, h1, h3⟩

def cmp (comp : List Nat) (sl : List Int) (x : Int) : Nat := comp.getD (place sl x) 0
theorem compI_of {comp : List Nat} {sl : List Int} {m : Nat} {E : Nat → Nat → Prop} (hs : sl.Pairwise (· < ·)) (hco : CompOf sl.length E comp m) {x : Int} (hx : x ∈ sl) : cmp comp sl x < m ∧ compI (ofL comp sl m) x = ((cmp comp sl x : Nat) : Int) := by
  obtain ⟨i, hi, he, hpl⟩ := mem_place hs hx
  have hcl := hco.1
  have hcm := (fo_lt _ _ _ hco.2.1).2
  have hic : i < comp.length := by omega
  have hlen : (ofL comp sl m).length = m := by simp [ofL]
  have hat : ∀ c, (h : c < (ofL comp sl m).length) → (ofL comp sl m)[c] = grpZ comp sl c := fun c h => by simp [ofL]
  unfold cmp
  rw [hpl]
  have hcm' : comp.getD i 0 < m := by
    rw [List.getD_eq_getElem?_getD, List.getElem?_eq_getElem hic]
    exact hcm _ (List.getElem_mem hic)
  have hxi : sl.getD i 0 = x := by rw [List.getD_eq_getElem?_getD, List.getElem?_eq_getElem hi, Option.getD_some, he]
  refine ⟨hcm', compI_at (j := comp.getD i 0) (by rw [hlen]; exact hcm') ?_ ?_⟩
  · intro c h hci
    rw [hat c h, Bool.eq_false_iff]
    intro hcon
    obtain ⟨v, b1, b2, b3⟩ := (mem_grpZ comp sl c x (by omega)).1 (by simpa using hcon)
    have hvi : v = i := by
      have hv : v < sl.length := by omega
      have e1 : sl[v] = sl[i] := by
        rw [List.getD_eq_getElem?_getD, List.getElem?_eq_getElem hv] at b3
        exact b3.trans he.symm
      rcases Nat.lt_trichotomy v i with h | h | h
      · have := List.pairwise_iff_getElem.1 hs v i hv hi h; omega
      · exact h
      · have := List.pairwise_iff_getElem.1 hs i v hi hv h; omega
    subst hvi
    omega
  · rw [hat _ (by rw [hlen]; exact hcm')]
    have := (mem_grpZ comp sl (comp.getD i 0) x (by omega)).2 ⟨i, hic, rfl, hxi⟩
    simpa using this

/-- Is c free, as the reference asks? -/
def flB (comp : List Nat) (sl : List Int) (told : List Bool) (c : Nat) (l : List (Int × Int)) : Bool :=
  !(told.getD c false) && l.all fun p => decide (cmp comp sl p.2 ≠ c) || decide (cmp comp sl p.1 = c) || told.getD (cmp comp sl p.1) false
theorem flB_snoc {comp : List Nat} {sl : List Int} {told : List Bool} {c : Nat} {l : List (Int × Int)} {p : Int × Int} : flB comp sl told c (l ++ [p]) = (flB comp sl told c l && (decide (cmp comp sl p.2 ≠ c) || decide (cmp comp sl p.1 = c) || told.getD (cmp comp sl p.1) false)) := by
  simp [flB, Bool.and_assoc]
theorem flB_false {comp : List Nat} {sl : List Int} {told : List Bool} {c j : Nat} {R : List (Int × Int)} (h : flB comp sl told c (R.take j) = false) : flB comp sl told c R = false := by
  rw [Bool.eq_false_iff] at h ⊢
  intro h2
  apply h
  unfold flB at h2 ⊢
  rw [Bool.and_eq_true] at h2 ⊢
  exact ⟨h2.1, List.all_eq_true.2 fun p hp => List.all_eq_true.1 h2.2 p (List.mem_of_mem_take hp)⟩
/-- The least free from k on, -1 if there is none. -/
def bst (fr : Nat → Bool) (m : Nat) : Nat → Nat → Int
  | 0, _ => -1
  | d + 1, k => if fr k = true then (k : Int) else bst fr m d (k + 1)
theorem bst_step (fr : Nat → Bool) (m k : Nat) (h : k < m) : bst fr m (m - k) k = if fr k = true then (k : Int) else bst fr m (m - (k + 1)) (k + 1) := by
  obtain ⟨d, hd⟩ : ∃ d, m - k = d + 1 := ⟨m - k - 1, by omega⟩
  rw [hd, bst, show m - (k + 1) = d by omega]
theorem bst_least (fr : Nat → Bool) (m c : Nat) (hc : c < m) (h1 : fr c = true) (h2 : ∀ c', c' < c → fr c' = false) : ∀ k, k ≤ c → bst fr m (m - k) k = (c : Int) := by
  intro k hk
  obtain ⟨d, hd⟩ : ∃ d, c = k + d := ⟨c - k, by omega⟩
  induction d generalizing k with
  | zero =>
    rw [bst_step fr m k (by omega)]
    have : k = c := by omega
    subst this
    rw [if_pos h1]
  | succ d ih =>
    rw [bst_step fr m k (by omega), if_neg (by rw [h2 k (by omega)]; decide)]
    exact ih (k + 1) (by omega) (by omega)

theorem order_next {n m t : Nat} {comp : List Nat} {sl : List Int} {R : List (Int × Int)} {F : List Nat} {told : List Bool} (hs : sl.Pairwise (· < ·)) (hn : sl.length = n) (hgood : good sl R = true) (hco : CompOf n (PE sl R) comp m) (hF : IsOrder (Arc n (PE sl R) comp) m F) (ht : t < F.length)
    (htold : ∀ c, c < m → (told.getD c false = true ↔ c ∈ F.take t)) : F[t] < m ∧ flB comp sl told F[t] R = true ∧ (∀ c', c' < F[t] → flB comp sl told c' R = false) ∧ told.getD F[t] false = false := by
  subst hn
  have hd2 : F = F.take t ++ F[t] :: F.drop (t + 1) := by rw [← List.drop_eq_getElem_cons ht, List.take_append_drop]
  obtain ⟨a1, a2, a3, a4⟩ := hF.1 _ _ _ hd2
  have htc : told.getD F[t] false = false := by
    cases h : told.getD F[t] false with
    | false => rfl
    | true => exact absurd ((htold _ a1).1 h) a2
  have hfr : ∀ p ∈ R, cmp comp sl p.1 < m ∧ cmp comp sl p.2 < m ∧ (cmp comp sl p.2 ≠ cmp comp sl p.1 → Arc sl.length (PE sl R) comp (cmp comp sl p.1) (cmp comp sl p.2)) := by
    intro p hp
    have hg := good_iff.1 hgood p hp
    have h1 : p.1 ∈ sl := by simpa using hg.1
    exact ⟨(compI_of hs hco h1).1, (compI_of hs hco (show p.2 ∈ sl by simpa using hg.2)).1, fun hne => ⟨hne, place sl p.1, place sl p.2, place_lt hs h1, ⟨p, hp, rfl, rfl⟩, rfl, rfl⟩⟩
  refine ⟨a1, ?_, fun c' hc' => ?_, htc⟩
  · unfold flB
    rw [htc]
    simp only [Bool.not_false, Bool.true_and]
    refine List.all_eq_true.2 fun p hp => ?_
    obtain ⟨f1, f2, f3⟩ := hfr p hp
    by_cases h1 : cmp comp sl p.2 = F[t]
    · by_cases h2 : cmp comp sl p.1 = F[t]
      · simp [h2]
      · have harc := f3 (by omega)
        rw [h1] at harc
        have hin : cmp comp sl p.1 ∈ F.take t := Classical.byContradiction fun h => a3 _ f1 h harc
        have := (htold _ f1).2 hin
        rw [this]
        simp
    · simp [h1]
  · have hcm : c' < m := by omega
    rw [Bool.eq_false_iff]
    intro hfl
    unfold flB at hfl
    rw [Bool.and_eq_true] at hfl
    have hnin : c' ∉ F.take t := fun h => by
      have := (htold c' hcm).2 h
      rw [this] at hfl
      exact absurd hfl.1 (by decide)
    obtain ⟨d, hd, hdn, hne, v, x, hv, ⟨p, hp, e1, e2⟩, e3, e4⟩ := a4 c' hc' hnin
    have hall := List.all_eq_true.1 hfl.2 p hp
    have c1 : cmp comp sl p.1 = d := by unfold cmp; rw [e1]; exact e3
    have c2 : cmp comp sl p.2 = c' := by unfold cmp; rw [e2]; exact e4
    rw [c1, c2] at hall
    have hdt : told.getD d false = false := by
      cases h : told.getD d false with
      | false => rfl
      | true => exact absurd ((htold _ hd).1 h) hdn
    rw [hdt] at hall
    simp at hall
    exact hne hall.symm

/-- Behind t components. -/
structure OSt2 (w1 : World) (gt gx : Nat) (A : Option Addr) (n cg : Nat) (AE : Option Addr) (mR ce m : Nat) (comp : List Nat) (sl : List Int) (F : List Nat) (t : Nat) (v4 : Value) (told : List Bool) (W : World) : Prop where
  td : At W gt (bls told) 4
  ln : told.length = m
  iff : ∀ c, c < m → (told.getD c false = true ↔ c ∈ F.take t)
  o : One w1 3 1 v4 t (ints ((F.take t).map (headZ comp sl))) W
  h : w1.heap.size ≤ gt

theorem OSt2.drewN {w1 W : World} {gt gx : Nat} {A : Option Addr} {n cg : Nat} {AE : Option Addr} {mR ce m : Nat} {comp : List Nat} {sl : List Int} {F : List Nat} {t : Nat} {v4 : Value} {told : List Bool} (h : OSt2 w1 gt gx A n cg AE mR ce m comp sl F t v4 told W) (q : Nat) : OSt2 w1 gt gx A n cg AE mR ce m comp sl F t v4 told (W.drewN q) :=
  ⟨h.td, h.ln, h.iff, ⟨h.o.r, ⟨h.o.b.os, h.o.b.tape, h.o.b.output, h.o.b.size, h.o.b.block⟩⟩, h.h⟩

def tb19_13.T13 : Bool × List (List Nat × List Nat) := (true, [([], []), ([], []), ([1], [1]), ([], []), ([2, 3], [2, 3]), ([4], [4]), ([5], [5]), ([0, 6], [0, 6]), ([], []), ([], []), ([9], [9]), ([], []), ([10, 11], [10, 11]), ([12], [12]), ([13], [13]), ([8, 14, 7], [8, 14]), ([7, 15, 0, 1, 2, 3, 4, 5, 6, 7], [7]), ([15, 16, 0, 1, 2, 3, 4, 5, 6, 7, 8, 9, 10, 11, 12, 13, 14, 15, 16], [15])])
def tb19_13.B13 : List Nat := [0, 0, 2, 0, 14, 30, 62, 127, 0, 0, 512, 0, 3584, 7680, 15872, 32767, 65535, 131071]
theorem tb19_13.tab13 : rtab .any (opsOf Try.f19 13) = tb19_13.T13 := by kernel_rfl
theorem tb19_13.bits13 : waitsOk tb19_13.T13.2 tb19_13.B13 = true := by kernel_rfl
set_option maxHeartbeats 8000000 in
set_option maxRecDepth 100000 in
theorem orderR_calls (w : World) (A AE : Option Addr) (cg ce m : Nat) (sl : List Int) (R : List (Int × Int)) (comp F : List Nat) (hv : RdI w A sl) (he : RdE w AE R) (hs : sl.Pairwise (· < ·)) (hgood : good sl R = true) (hco : CompOf sl.length (PE sl R) comp m) (hF : IsOrder (Arc sl.length (PE sl R) comp) m F) (hl : sl.length ≤ 1000) (hr : R.length ≤ 100000) :
    Calls Try.prog 19 #[gV A sl.length cg (.slice AE R.length ce)] w fun e w' => ∃ A' c', e = .returned (.slice A' m c') ∧ RdI w' A' (F.map (headZ comp sl)) ∧ Below w.heap.size w w' := by
  obtain ⟨i1, hi1, hz1, hs1, hy1⟩ := info_parts info_int
  obtain ⟨n, hn⟩ : ∃ n, sl.length = n := ⟨_, rfl⟩
  have hof := fun (W : World) (hW : Below w.heap.size w W) => ofR_calls W A AE cg ce m sl R comp (hv.below hW) (he.below hW) hs hgood hco hl hr
  have hmn : m ≤ 1000 := by have := fo_bound comp 0 m hco.2.1; have := hco.1; omega
  have HCI := Lib.hid (fun (x : Int) (hx : x ∈ sl) => compI_of hs hco hx)
  rw [hn] at hl hof hco hF ⊢
  unfold gV at hof ⊢
  have HE := Lib.hid he
  have HOFW := Lib.hid hof
  have HNX := Lib.hid (fun (t : Nat) (told : List Bool) (ht : t < F.length) h => order_next (told := told) hs hn hgood hco hF ht h)
  have HFL := Lib.hid hF.2.2
  have HGD := Lib.hid (good_iff.1 hgood)
  have HRS := Lib.hid (show (ofL comp sl m).length = m ∧ (∀ r ∈ ofL comp sl m, r.length ≤ 1000) ∧ ∀ c, c < m → (ofL comp sl m)[c]? = some (grpZ comp sl c) ∧ grpZ comp sl c ≠ [] by
    refine ⟨by simp [ofL], fun r hr => ?_, fun c hc => ⟨by simp [ofL, hc], fun h0 => ?_⟩⟩
    · simp only [ofL, List.mem_map] at hr
      obtain ⟨c, _, rfl⟩ := hr
      have := grpZ_length comp sl c
      have := hco.1
      omega
    · obtain ⟨v, a1, a2, _⟩ := first_occ c comp (fo_mem comp 0 m hco.2.1 c (by omega) hc)
      have := (mem_grpZ comp sl c _ (by have := hco.1; omega)).2 ⟨v, a1, a2, rfl⟩
      rw [h0] at this
      simp at this)
  have hm1 := fun wx => run_make_row' (P := Try.prog) 69 4 (.bool false) 1 Try.underlying69 info_bool rfl .i64 .i64 m (by omega) (by omega) wx
  clear hv he hs hgood hn hof hco hF
  go_enter Try.func19, Try.ntmps19
  go_wp2_with fail
  refine (HOFW.out _ ((Below.refl _ _).alloc (Nat.le_refl _) _)).mono ?_
  clear HOFW
  rintro e w1 ⟨A3, c3, rfl, hrl, hb1⟩
  have hsz : (w.alloc (.cells #[.slice A n cg, .slice AE R.length ce, .int .i64 0, .int .i64 0] 44)).heap.size = w.heap.size + 1 := by simp
  have hgx : At w1 w.heap.size [.slice A n cg, .slice AE R.length ce, .int .i64 0, .int .i64 0] 44 := (At.made (w := w) (a := #[.slice A n cg, .slice AE R.length ce, .int .i64 0, .int .i64 0]) rfl rfl).below hb1 (by rw [hsz]; omega)
  have hbel : Below w.heap.size w w1 := ((Below.refl _ _).alloc (Nat.le_refl _) _).trans (hb1.mono (by rw [hsz]; omega))
  have HE1 := Lib.hid (HE.out.below hbel)
  have HB1 := Lib.hid hbel
  obtain ⟨gx, hgxe⟩ : ∃ gx, w.heap.size = gx := ⟨_, rfl⟩
  rw [hgxe] at hgx ⊢
  have HX := Lib.hid hgx
  have HRL := Lib.hid hrl
  clear hsz hgx hbel hrl hb1 HE
  go_wp2_with fail
  clear hm1
  refine gen_loopw (fun W => OSt2 w1 w1.heap.size gx A n cg AE R.length ce m comp sl F 0 (.slice none 0 0) (List.replicate m false) W) ?_ ?_
  · exact ⟨At.made rfl (by rw [toList_madeCells_one]; simp [bls]), by simp, fun c hc => by simp [List.getD_eq_getElem?_getD, hc], One.startAt ((Below.refl _ _).alloc (Nat.le_refl _) _), Nat.le_refl _⟩
  obtain ⟨gt, hgt⟩ : ∃ gt, w1.heap.size = gt := ⟨_, rfl⟩
  rw [hgt]
  clear hgt
  intro w3 hst
  have HST := Lib.hid hst
  clear hst
  go_loopg [4, 6] m (fun kq v4 v6 w' => ∃ t A4 c4 told, v4 = .slice A4 t c4 ∧ Hid (t + kq = m ∧ OSt2 w1 gt gx A n cg AE R.length ce m comp sl F t (.slice A4 t c4) told w'))
  case atStart => exact ⟨0, none, 0, _, rfl, Lib.hid ⟨by omega, HST.out⟩⟩
  case round =>
    clear HST
    obtain ⟨t, A4, c4, told, rfl, hI⟩ := hrel
    obtain ⟨htk, hG⟩ := hI.out
    clear hI
    by_cases ht : t < m
    · obtain ⟨k1, rfl⟩ : ∃ k1, gk = k1 + 1 := ⟨gk - 1, by omega⟩
      obtain ⟨n1, n2, n3, n4⟩ := HNX.out t told (by rw [HFL.out]; exact ht) hG.iff
      obtain ⟨cs, hcs⟩ : ∃ cs, F[t]'(by rw [HFL.out]; exact ht) = cs := ⟨_, rfl⟩
      rw [hcs] at n1 n2 n3 n4
      have hbst := bst_least (fun c => flB comp sl told c R) m cs n1 n2 n3 0 (Nat.zero_le _)
      have HBS := Lib.hid hbst
      have HN1 := Lib.hid n1
      have HCS := Lib.hid hcs
      have HG := Lib.hid hG
      have HTK := Lib.hid htk
      have e1 : wrap64 ((m : Int) - 1) = (m : Int) - 1 := by unfold wrap64; omega
      have j1 : (t : Int) < (m : Int) := by omega
      obtain ⟨wo, hwo⟩ : ∃ wo, wr = wo := ⟨_, rfl⟩
      rw [hwo] at HG ⊢
      clear hbst n1 n2 n3 n4 hcs hG htk hwo
      go_wp2_with fail
      clear e1
      go_loopg [6, 7] m (fun kq v6 v7 w' => ∃ q : Int, v7 = .int .i64 q ∧ q = (kq : Int) - 1 ∧ v6 = .int .i64 (bst (fun c => flB comp sl told c R) m (m - kq) kq) ∧ Hid (kq ≤ m ∧ ∃ p, w' = wo.drewN p))
      case atStart => exact ⟨_, rfl, rfl, by rw [Nat.sub_self]; rfl, Lib.hid ⟨Nat.le_refl _, 0, rfl⟩⟩
      case round =>
        obtain ⟨q, rfl, hq, rfl, hI⟩ := hrel
        obtain ⟨hkm, p, rfl⟩ := hI.out
        clear hI
        cases gk with
        | zero =>
          obtain rfl : q = -1 := by omega
          rw [HBS.out]
          have hG := HG.out.drewN p
          obtain ⟨W, hW⟩ : ∃ W, wo.drewN p = W := ⟨_, rfl⟩
          rw [hW] at hG ⊢
          have hcsm := HN1.out
          obtain ⟨x0, hx0⟩ : ∃ x0, W.cell? ⟨gt, cs, none⟩ = some x0 := ⟨_, hG.td.cell cs (List.getElem?_eq_getElem (by rw [bls_length, hG.ln]; exact hcsm))⟩
          have hfr := hG.td.free cs
          have c0 : (0 : Int) ≤ (cs : Int) := by omega
          have c1' : (cs : Int) < (m : Int) := by omega
          have HG2 := Lib.hid hG
          clear hG hW hkm hq HG
          go_upto_region 18 with (fail)
          refine gen_world (fun W2 => At W2 gt (bls (told.set cs true)) 4 ∧ One w1 3 1 (.slice A4 t c4) t (ints ((F.take t).map (headZ comp sl))) W2) ?_ ?_
          · exact ⟨HG2.out.td.put (bls_set _ _ _).symm, ⟨own_beside HG2.out.o.r HG2.out.td (by decide), HG2.out.o.b.setCell HG2.out.h _⟩⟩
          clear hx0 hfr x0
          rintro W2 ⟨htd, hO⟩
          obtain ⟨r1, r2, r3⟩ := HRS.out
          obtain ⟨hgr, hgne⟩ := r3 cs hcsm
          have hcl : cs < (ofL comp sl m).length := by rw [r1]; exact hcsm
          have hge : (ofL comp sl m)[cs] = grpZ comp sl cs := by rw [List.getElem?_eq_getElem hcl] at hgr; exact Option.some.inj hgr
          obtain ⟨b3, bb, c8, rfl, cb, ch⟩ := RdL.headR (HRL.out.below hO.b) hcl (by rw [hge]; exact hgne)
          rw [hge] at cb ch
          obtain ⟨n8, hn8⟩ : ∃ n8, (grpZ comp sl cs).length = n8 := ⟨_, rfl⟩
          obtain ⟨hz, hhz⟩ : ∃ hz, (grpZ comp sl cs).headD 0 = hz := ⟨_, rfl⟩
          rw [hn8] at cb
          rw [hhz] at ch
          have n80 : 0 < n8 := by rw [← hn8]; exact List.length_pos_iff.2 hgne
          have htk : F.take (t + 1) = F.take t ++ [cs] := by rw [← HCS.out]; exact List.take_succ_eq_append_getElem (by rw [HFL.out]; exact ht)
          have HTD := Lib.hid htd
          have HO := Lib.hid hO
          have HTF := Lib.hid htk
          have HHZ := Lib.hid (show headZ comp sl cs = hz from hhz)
          clear htd hO r1 r2 r3 hgr hgne hcl hge hn8 hhz htk
          go_wp2_with ((at_builtin; refine wpList_append_any rfl (.tmp 79) (.tmp 86) 22 rfl w1.heap.size 3 i1 (.int .i64 0) 1 8 Try.underlying22 hi1 hz1 hs1 hy1 rfl (by omega) _ _ _ rfl (HO.out.r.alloc (.cells #[.int .i64 hz] 3)) _ rfl 1 [.int .i64 hz] (RdV.lit W2 #[.int .i64 hz] 3 1 1 1 rfl (by simp [Value.oneCell'])) (by unfold maxLen; omega) (by omega) (by have := HO.out.b.size; simp; omega) ?_; intro v4 w4 ho hg hn; obtain ⟨A5, c5, rfl⟩ := own_slice ho; have hone := (HO.out.below ((Below.refl _ _).alloc (Nat.le_refl _) (.cells #[.int .i64 hz] 3))).grow ho hg; have htd := (HTD.out.al (o := .cells #[.int .i64 hz] 3)).grown hg (own_off (HO.out.r.alloc (.cells #[.int .i64 hz] 3)) HTD.out.al (by decide)); have HO4 := Lib.hid hone; have HT4 := Lib.hid htd; clear ho hg hn hone htd))
          go_roundg k1
          case measure => have := HTK.out; omega
          case rel =>
            refine ⟨t + 1, A5, c5, told.set cs true, rfl, Lib.hid ⟨by have := HTK.out; omega, HT4.out, by rw [List.length_set]; exact HG2.out.ln, fun c hc => ?_, ?_, HG2.out.h⟩⟩
            · rw [HTF.out, List.mem_append, List.mem_singleton, ← HG2.out.iff c hc]
              by_cases hcc : c = cs
              · subst hcc
                simp [List.getD_eq_getElem?_getD, HG2.out.ln, hc]
              · rw [List.getD_eq_getElem?_getD, List.getElem?_set_ne (Ne.symm hcc), ← List.getD_eq_getElem?_getD]
                simp [hcc]
            · rw [HTF.out, List.map_append, List.map_cons, List.map_nil, HHZ.out, ← ints_snoc]
              exact HO4.out
        | succ c =>
          obtain rfl : q = (c : Int) := by omega
          have hG := HG.out.drewN p
          obtain ⟨x, hx⟩ : ∃ x, told[c]? = some x := ⟨_, List.getElem?_eq_getElem (by rw [hG.ln]; omega)⟩
          have cx := hG.td.cell c (bls_at _ hx)
          have hxd : told.getD c false = x := by rw [List.getD_eq_getElem?_getD, hx]; rfl
          have hf0 : flB comp sl told c (R.take 0) = !x := by rw [List.take_zero]; simp only [flB, hxd, List.all_nil, Bool.and_true]
          have hst := bst_step (fun c => flB comp sl told c R) m c (by omega)
          have HST := Lib.hid hst
          have HF0 := Lib.hid hf0
          have HKM := Lib.hid hkm
          have c0 : (0 : Int) ≤ (c : Int) := by omega
          have c1' : (c : Int) < (m : Int) := by omega
          have c2' : (m : Int) ≤ 1000 := by omega
          have q1 := keep_at (hG.o.b) (HX.out.cell 1 rfl)
          clear hG hx hxd hf0 hst hkm hq
          go_wp2_with fail
          go_loopg [8, 9, 10, 11] R.length (fun kq v8 v9 v10 v11 w' => ∃ j : Nat, v9 = .int .i64 (j : Int) ∧ v8 = .bool (flB comp sl told c (R.take j)) ∧ Hid (j + kq = R.length ∧ ∃ p, w' = wo.drewN p))
          case atStart => exact ⟨0, rfl, by rw [HF0.out], Lib.hid ⟨by omega, p, rfl⟩⟩
          case round =>
            clear cx q1 HF0
            obtain ⟨j, rfl, rfl, hI⟩ := hrel
            obtain ⟨hjk, p, rfl⟩ := hI.out
            clear hI
            have hG := HG.out.drewN p
            have q1 := keep_at (hG.o.b) (HX.out.cell 1 rfl)
            cases hfl : flB comp sl told c (R.take j) with
            | false =>
              have hR := flB_false hfl
              have hst := HST.out
              rw [if_neg (by rw [hR]; decide)] at hst
              have HS2 := Lib.hid hst
              have HKM2 := HKM.out
              clear hfl hR hst hG
              by_cases hj : j < R.length
              · have j0 : (0 : Int) ≤ (j : Int) := by omega
                have j1 : (j : Int) < (R.length : Int) := by omega
                clear hjk hj
                go_wp2
                go_roundg c
                case measure => omega
                case rel => exact ⟨_, by go_num, rfl, by rw [HS2.out], Lib.hid ⟨by omega, p, rfl⟩⟩
              · have j1 : (R.length : Int) ≤ (j : Int) := by omega
                clear hjk hj
                go_wp2
                go_roundg c
                case measure => omega
                case rel => exact ⟨_, by go_num, rfl, by rw [HS2.out], Lib.hid ⟨by omega, p, rfl⟩⟩
            | true =>
              by_cases hj : j < R.length
              · obtain ⟨k2, rfl⟩ : ∃ k2, gk = k2 + 1 := ⟨gk - 1, by omega⟩
                obtain ⟨⟨u, v⟩, hxx⟩ : ∃ x, R[j] = x := ⟨_, rfl⟩
                have hx : R[j]? = some (u, v) := by rw [List.getElem?_eq_getElem hj, hxx]
                obtain ⟨be, rfl, qu, qv⟩ := (HE1.out.below hG.o.b) j u v hx
                have hgp := HGD.out _ (List.mem_of_getElem? hx)
                obtain ⟨cu, hcue⟩ : ∃ cu, cmp comp sl u = cu := ⟨_, rfl⟩
                obtain ⟨cv, hcve⟩ : ∃ cv, cmp comp sl v = cv := ⟨_, rfl⟩
                have hiu := HCI.out u (by simpa using hgp.1)
                have hiv := HCI.out v (by simpa using hgp.2)
                rw [hcue] at hiu
                rw [hcve] at hiv
                have hC : ∀ (x : Int) (cc : Nat), compI (ofL comp sl m) x = (cc : Int) → Calls Try.prog 12 #[.slice A3 m c3, .int .i64 x] (wo.drewN p).drew fun e w' => e = .returned (.int .i64 (cc : Int)) ∧ w' = (wo.drewN p).drew := fun x cc hx => by
                  have hb3 : Below w1.heap.size w1 (wo.drewN p).drew := hG.o.b.drew
                  have hmm := HRS.out.1
                  have := comp_calls (wo.drewN p).drew A3 c3 (ofL comp sl m) x (HRL.out.below hb3) (by rw [hmm]; omega) (fun r hr => Nat.le_trans (HRS.out.2.1 r hr) (by omega))
                  rw [hmm, hx] at this
                  exact this
                have HCU := Lib.hid (hC u cu hiu.2)
                have HCV := Lib.hid (hC v cv hiv.2)
                obtain ⟨x, hxt⟩ : ∃ x, told[cu]? = some x := ⟨_, List.getElem?_eq_getElem (by rw [hG.ln]; exact hiu.1)⟩
                have ct : (wo.drewN p).drew.cell? ⟨gt, cu, none⟩ = some (.bool x) := hG.td.cell cu (bls_at _ hxt)
                have ct2 : (wo.drewN (p + 1)).cell? ⟨gt, cu, none⟩ = some (.bool x) := hG.td.cell cu (bls_at _ hxt)
                have hsn : flB comp sl told c (R.take (j + 1)) = (decide (cv ≠ c) || decide (cu = c) || x) := by
                  rw [List.take_add_one, hx]
                  show flB comp sl told c (R.take j ++ [(u, v)]) = _
                  rw [flB_snoc, hfl, Bool.true_and]
                  show (decide (cmp comp sl v ≠ c) || decide (cmp comp sl u = c) || told.getD (cmp comp sl u) false) = _
                  rw [hcue, hcve, List.getD_eq_getElem?_getD, hxt]
                  rfl
                have HSN := Lib.hid hsn
                have HJ := Lib.hid hjk
                have j0 : (0 : Int) ≤ (j : Int) := by omega
                have j1 : (j : Int) < (R.length : Int) := by omega
                have j2 : (R.length : Int) ≤ 100000 := by omega
                have u0 : (0 : Int) ≤ (cu : Int) := by omega
                have u1 : (cu : Int) < (m : Int) := by have := hiu.1; omega
                clear hC hiu hiv hgp hcue hcve hx hxx hjk hfl hxt hG hsn
                go_upto_region 13 with (fail)
                refine start_ (n := 18) (S := fun w' => w'.cell? ⟨gx, 1, none⟩ = some (.slice (some ⟨be, 0, none⟩) R.length ce) ∧ w'.cell? ⟨be, j * 4 + 1, none⟩ = some (.int .i64 u) ∧ w'.cell? ⟨be, j * 4 + 2, none⟩ = some (.int .i64 v)) (ds := []) #[false, false, false, false, false, false, false, false, false, false, false, false, false, false, false, false, false, false] (by kernel_rfl) rfl rfl ⟨q1, qu, qv⟩ (fun hHeld => ?_)
                refine with_tabW tb19_13.tab13 tb19_13.bits13 (fun HT_ HW_ => ?_)
                refine pure_ (i := 0) (N := some 44) (v := ?_) (a' := ?_) #[true, false, false, false, false, false, false, false, false, false, false, false, false, false, false, false, false, false] rfl rfl (any_of HT_.out (by kernel_rfl)) (fun _ _ _ h => h) (Or.inl ⟨by rfl, ?_⟩) ?_ ?_
                rotate_left
                · intro w'
                  go_simp
                  with_reducible rfl
                rotate_left
                · simp only [Act.put, List.setIfInBounds_toArray, List.set_cons_zero, List.set_cons_succ, i64_w, i32_w]
                  rfl
                refine pure_ (i := 1) (N := some 45) (v := ?_) (a' := ?_) #[true, true, false, false, false, false, false, false, false, false, false, false, false, false, false, false, false, false] rfl rfl (any_of HT_.out (by kernel_rfl)) (fun _ _ _ h => h) (Or.inl ⟨by rfl, ?_⟩) ?_ ?_
                rotate_left
                · intro w'
                  go_simp
                  with_reducible rfl
                rotate_left
                · simp only [Act.put, List.setIfInBounds_toArray, List.set_cons_zero, List.set_cons_succ, i64_w, i32_w]
                  rfl
                refine pure_ (i := 3) (N := some 47) (v := ?_) (a' := ?_) #[true, true, false, true, false, false, false, false, false, false, false, false, false, false, false, false, false, false] rfl rfl (any_of HT_.out (by kernel_rfl)) (fun _ _ _ h => h) (Or.inl ⟨by rfl, ?_⟩) ?_ ?_
                rotate_left
                · intro w'
                  go_simp
                  with_reducible rfl
                rotate_left
                · simp only [Act.put, List.setIfInBounds_toArray, List.set_cons_zero, List.set_cons_succ, i64_w, i32_w]
                  rfl
                refine pure_ (i := 8) (N := some 52) (v := ?_) (a' := ?_) #[true, true, false, true, false, false, false, false, true, false, false, false, false, false, false, false, false, false] rfl rfl (any_of HT_.out (by kernel_rfl)) (fun _ _ _ h => h) (Or.inl ⟨by rfl, ?_⟩) ?_ ?_
                rotate_left
                · intro w'
                  go_simp
                  with_reducible rfl
                rotate_left
                · simp only [Act.put, List.setIfInBounds_toArray, List.set_cons_zero, List.set_cons_succ, i64_w, i32_w]
                  rfl
                refine pure_ (i := 9) (N := some 53) (v := ?_) (a' := ?_) #[true, true, false, true, false, false, false, false, true, true, false, false, false, false, false, false, false, false] rfl rfl (any_of HT_.out (by kernel_rfl)) (fun _ _ _ h => h) (Or.inl ⟨by rfl, ?_⟩) ?_ ?_
                rotate_left
                · intro w'
                  go_simp
                  with_reducible rfl
                rotate_left
                · simp only [Act.put, List.setIfInBounds_toArray, List.set_cons_zero, List.set_cons_succ, i64_w, i32_w]
                  rfl
                refine pure_ (i := 11) (N := some 55) (v := ?_) (a' := ?_) #[true, true, false, true, false, false, false, false, true, true, false, true, false, false, false, false, false, false] rfl rfl (any_of HT_.out (by kernel_rfl)) (fun _ _ _ h => h) (Or.inl ⟨by rfl, ?_⟩) ?_ ?_
                rotate_left
                · intro w'
                  go_simp
                  with_reducible rfl
                rotate_left
                · simp only [Act.put, List.setIfInBounds_toArray, List.set_cons_zero, List.set_cons_succ, i64_w, i32_w]
                  rfl
                refine take_ (i := 2) (N := some 46) (v := ?_) (a' := ?_) #[true, true, true, true, false, false, false, false, true, true, false, true, false, false, false, false, false, false] rfl rfl (take_ofW HT_.out HW_.out (by kernel_rfl)) (fun _ _ _ h => h) (Or.inl ⟨by rfl, ?_⟩) hHeld ?_ ?_
                rotate_left
                · rintro w' ⟨s0, s1, s2⟩
                  go_simp
                  with_reducible rfl
                rotate_left
                · simp only [Act.put, List.setIfInBounds_toArray, List.set_cons_zero, List.set_cons_succ, i64_w, i32_w]
                  rfl
                refine pure_ (i := 4) (N := some 48) (v := ?_) (a' := ?_) #[true, true, true, true, true, false, false, false, true, true, false, true, false, false, false, false, false, false] rfl rfl (any_of HT_.out (by kernel_rfl)) (fun _ _ _ h => h) (Or.inl ⟨by rfl, ?_⟩) ?_ ?_
                rotate_left
                · intro w'
                  go_simp
                  with_reducible rfl
                rotate_left
                · simp only [Act.put, List.setIfInBounds_toArray, List.set_cons_zero, List.set_cons_succ, i64_w, i32_w]
                  rfl
                refine pure_ (i := 5) (N := some 49) (v := ?_) (a' := ?_) #[true, true, true, true, true, true, false, false, true, true, false, true, false, false, false, false, false, false] rfl rfl (any_of HT_.out (by kernel_rfl)) (fun _ _ _ h => h) (Or.inl ⟨by rfl, ?_⟩) ?_ ?_
                rotate_left
                · intro w'
                  go_simp
                  with_reducible rfl
                rotate_left
                · simp only [Act.put, List.setIfInBounds_toArray, List.set_cons_zero, List.set_cons_succ, i64_w, i32_w]
                  rfl
                refine take_ (i := 6) (N := some 50) (v := ?_) (a' := ?_) #[true, true, true, true, true, true, true, false, true, true, false, true, false, false, false, false, false, false] rfl rfl (take_ofW HT_.out HW_.out (by kernel_rfl)) (fun _ _ _ h => h) (Or.inl ⟨by rfl, ?_⟩) hHeld ?_ ?_
                rotate_left
                · rintro w' ⟨s0, s1, s2⟩
                  go_simp
                  with_reducible rfl
                rotate_left
                · simp only [Act.put, List.setIfInBounds_toArray, List.set_cons_zero, List.set_cons_succ, i64_w, i32_w]
                  rfl
                refine take_ (i := 10) (N := some 54) (v := ?_) (a' := ?_) #[true, true, true, true, true, true, true, false, true, true, true, true, false, false, false, false, false, false] rfl rfl (take_ofW HT_.out HW_.out (by kernel_rfl)) (fun _ _ _ h => h) (Or.inl ⟨by rfl, ?_⟩) hHeld ?_ ?_
                rotate_left
                · rintro w' ⟨s0, s1, s2⟩
                  go_simp
                  with_reducible rfl
                rotate_left
                · simp only [Act.put, List.setIfInBounds_toArray, List.set_cons_zero, List.set_cons_succ, i64_w, i32_w]
                  rfl
                refine pure_ (i := 12) (N := some 56) (v := ?_) (a' := ?_) #[true, true, true, true, true, true, true, false, true, true, true, true, true, false, false, false, false, false] rfl rfl (any_of HT_.out (by kernel_rfl)) (fun _ _ _ h => h) (Or.inl ⟨by rfl, ?_⟩) ?_ ?_
                rotate_left
                · intro w'
                  go_simp
                  with_reducible rfl
                rotate_left
                · simp only [Act.put, List.setIfInBounds_toArray, List.set_cons_zero, List.set_cons_succ, i64_w, i32_w]
                  rfl
                refine pure_ (i := 13) (N := some 57) (v := ?_) (a' := ?_) #[true, true, true, true, true, true, true, false, true, true, true, true, true, true, false, false, false, false] rfl rfl (any_of HT_.out (by kernel_rfl)) (fun _ _ _ h => h) (Or.inl ⟨by rfl, ?_⟩) ?_ ?_
                rotate_left
                · intro w'
                  go_simp
                  with_reducible rfl
                rotate_left
                · simp only [Act.put, List.setIfInBounds_toArray, List.set_cons_zero, List.set_cons_succ, i64_w, i32_w]
                  rfl
                refine take_ (i := 14) (N := some 58) (v := ?_) (a' := ?_) #[true, true, true, true, true, true, true, false, true, true, true, true, true, true, true, false, false, false] rfl rfl (take_ofW HT_.out HW_.out (by kernel_rfl)) (fun _ _ _ h => h) (Or.inl ⟨by rfl, ?_⟩) hHeld ?_ ?_
                rotate_left
                · rintro w' ⟨s0, s1, s2⟩
                  go_simp
                  with_reducible rfl
                rotate_left
                · simp only [Act.put, List.setIfInBounds_toArray, List.set_cons_zero, List.set_cons_succ, i64_w, i32_w]
                  rfl
                refine one_ (i := 7) (N := some 51) #[true, true, true, true, true, true, true, true, true, true, true, true, true, true, true, false, false, false] rfl rfl (one_of HT_.out (by kernel_rfl)) (by decide) (fun K hK => ?_)
                refine goes_ Try.func12 (by kernel_rfl) rfl #[.slice A3 m c3, .int .i64 u] (by rfl) rfl rfl (by simp only [List.map_toArray, List.map_cons, List.map_nil]; rfl) ?_
                with_reducible refine (HCU.out).mono ?_
                rintro e wa ⟨rfl, rfl⟩
                refine ⟨_, rfl, ?_⟩
                refine hK.out _ _ ⟨q1, qu, qv⟩ (fun hHeld => ?_)
                clear hK K
                refine norm_ (a' := ?_) ?_ ?_
                rotate_left
                · show Act.put _ (some 51) _ = _
                  simp only [Act.put, List.setIfInBounds_toArray, List.set_cons_zero, List.set_cons_succ, i64_w, i32_w]
                  rfl
                refine one_ (i := 15) (N := some 59) #[true, true, true, true, true, true, true, true, true, true, true, true, true, true, true, true, false, false] rfl rfl (one_of HT_.out (by kernel_rfl)) (by decide) (fun K hK => ?_)
                refine goes_ Try.func12 (by kernel_rfl) rfl #[.slice A3 m c3, .int .i64 v] (by rfl) rfl rfl (by simp only [List.map_toArray, List.map_cons, List.map_nil]; rfl) ?_
                with_reducible refine (HCV.out).mono ?_
                rintro e wb ⟨rfl, rfl⟩
                refine ⟨_, rfl, ?_⟩
                refine hK.out _ _ ⟨q1, qu, qv⟩ (fun hHeld => ?_)
                clear hK K
                refine norm_ (a' := ?_) ?_ ?_
                rotate_left
                · show Act.put _ (some 59) _ = _
                  simp only [Act.put, List.setIfInBounds_toArray, List.set_cons_zero, List.set_cons_succ, i64_w, i32_w]
                  rfl
                refine pure_ (i := 16) (N := some 10) (v := ?_) (a' := ?_) #[true, true, true, true, true, true, true, true, true, true, true, true, true, true, true, true, true, false] rfl rfl (any_of HT_.out (by kernel_rfl)) (fun _ _ _ h => h) (Or.inl ⟨by rfl, ?_⟩) ?_ ?_
                rotate_left
                · intro w'
                  go_simp
                  with_reducible rfl
                rotate_left
                · simp only [Act.put, List.setIfInBounds_toArray, List.set_cons_zero, List.set_cons_succ, i64_w, i32_w]
                  rfl
                refine pure_ (i := 17) (N := some 11) (v := ?_) (a' := ?_) #[true, true, true, true, true, true, true, true, true, true, true, true, true, true, true, true, true, true] rfl rfl (any_of HT_.out (by kernel_rfl)) (fun _ _ _ h => h) (Or.inl ⟨by rfl, ?_⟩) ?_ ?_
                rotate_left
                · intro w'
                  go_simp
                  with_reducible rfl
                rotate_left
                · simp only [Act.put, List.setIfInBounds_toArray, List.set_cons_zero, List.set_cons_succ, i64_w, i32_w]
                  rfl
                refine done_ (done_of HT_.out (by kernel_rfl)) ?_
                clear hHeld HT_ HW_
                clear qu qv q1 HCU HCV
                by_cases h1 : cv = c
                · have f1 : ((cv : Int) == (c : Int)) = true := by rw [h1]; simp
                  have f2 : ((cv : Int) != (c : Int)) = false := by rw [bne, f1]; rfl
                  by_cases h2 : cu = c
                  · have f3 : ((cu : Int) == (c : Int)) = true := by rw [h2]; simp
                    go_wp2
                    go_roundg k2
                    case measure => have := HJ.out; omega
                    case rel => exact ⟨j + 1, by go_num, by rw [HSN.out]; simp [h2], Lib.hid ⟨by have := HJ.out; omega, p + 1, rfl⟩⟩
                  · have f3 : ((cu : Int) == (c : Int)) = false := beq_eq_false_iff_ne.2 (by omega)
                    go_wp2
                    go_roundg k2
                    case measure => have := HJ.out; omega
                    case rel => exact ⟨j + 1, by go_num, by rw [HSN.out]; simp [h1, h2], Lib.hid ⟨by have := HJ.out; omega, p + 1, rfl⟩⟩
                · have f1 : ((cv : Int) == (c : Int)) = false := beq_eq_false_iff_ne.2 (by omega)
                  have f2 : ((cv : Int) != (c : Int)) = true := by rw [bne, f1]; rfl
                  go_wp2
                  go_roundg k2
                  case measure => have := HJ.out; omega
                  case rel => exact ⟨j + 1, by go_num, by rw [HSN.out]; simp [h1], Lib.hid ⟨by have := HJ.out; omega, p + 1, rfl⟩⟩
              · obtain rfl : j = R.length := by omega
                rw [List.take_length] at hfl
                have hst := HST.out
                rw [if_pos hfl] at hst
                have HS2 := Lib.hid hst
                have HKM2 := HKM.out
                clear hfl hst hG hjk hj
                go_wp2
                go_roundg c
                case measure => omega
                case rel => exact ⟨_, by go_num, rfl, by rw [HS2.out], Lib.hid ⟨by omega, p, rfl⟩⟩
    · obtain rfl : m = t := by omega
      have ho := hG.o
      rw [List.take_of_length_le (by rw [HFL.out]; exact Nat.le_refl _)] at ho
      have HRI := Lib.hid (RdI.of_own ho.r).1
      have HBF := Lib.hid ho.b
      clear ho hG htk ht
      go_wp2
      go_ret
      exact ⟨A4, c4, rfl, HRI.out, HB1.out.trans (HBF.out.mono HB1.out.size)⟩

end Go.Proofs.Ythlmffjafeodlaa.Lw
