/- parts.Parts[int] in memory. -/
import Derived.Test.YthomnpgpbhpojaaPo6
import Derived.Test.YthomnpgpbhpojaaPo7
import Derived.LaidEqlPtr
import Derived.Test.YthomnpgpbhpojaaPo5
namespace Go.Proofs.Ythomnpgpbhpojaa.Pt
open Go Go.RowKit Go.Proofs.Ythomnpgpbhpojaa.Mem Go.Proofs.Ythomnpgpbhpojaa.Sl Go.Proofs.Ythomnpgpbhpojaa.Lw Go.Proofs.YthomnpgpbhpojaaW.PrintWords Go.Proofs.YthomnpgpbhpojaaW.PrintLast
attribute [local go_sem ↓] Go.wp_at_zero Go.wp_at_succ
set_option linter.unusedSimpArgs false
set_option linter.unusedVariables false

def ptf (cls : Int → Option Nat) : Int → Option Value := fun v => (cls v).map fun b => .pointer (some ⟨b, 0, none⟩)
structure PtR (w : World) (cls : Int → Option Nat) (row : Nat → List Int) (val : Nat → Value) (pb : Nat → Prop) : Prop where
  hb : ∀ v b, cls v = some b → At w b [val b] 25 ∧ w.ownsRow 0 3 1 (val b) (row b).length (ints (row b)) ∧ pb b ∧ ∀ k, (val b).ownBlock = some k → pb k
  mem : ∀ v b, cls v = some b → ∀ x, x ∈ row b ↔ cls x = some b
  nd : ∀ v b, cls v = some b → (row b).Nodup
  ne : ∀ v v' b b' k, cls v = some b → cls v' = some b' → b ≠ b' → (val b).ownBlock = some k → (val b').ownBlock ≠ some k
  lt : ∀ k, pb k → k < w.heap.size
structure PtS (w : World) (gp gm : Nat) (cls : Int → Option Nat) (row : Nat → List Int) (val : Nat → Value) (pb : Nat → Prop) : Prop where
  hp : At w gp [.map (some gm)] 81
  hm : MQ w gm (ptf cls)
  pm : pb gm
  np : ¬ pb gp
  r : PtR w cls row val pb
def ext (p : Nat → Prop) (w w' : World) : Nat → Prop := fun k => p k ∨ (w.heap.size ≤ k ∧ k < w'.heap.size)

section
variable {w w' : World} {gp gm : Nat} {cls : Int → Option Nat} {row : Nat → List Int} {val : Nat → Value} {pb : Nat → Prop}
theorem ptf_none {v : Int} (h : cls v = none) : ptf cls v = none := by simp [ptf, h]
theorem ptf_some {v : Int} {b : Nat} (h : cls v = some b) : ptf cls v = some (.pointer (some ⟨b, 0, none⟩)) := by simp [ptf, h]
theorem PtR.below (h : PtR w cls row val pb) (hb : Below w.heap.size w w') : PtR w' cls row val pb :=
  ⟨fun v b hv => by
    obtain ⟨a1, a2, a3, a4⟩ := h.hb v b hv
    exact ⟨a1.below hb a1.lt, own_below a2 hb, a3, a4⟩, h.mem, h.nd, h.ne, fun k hk => Nat.lt_of_lt_of_le (h.lt k hk) hb.size⟩
theorem PtR.kept {p : Nat → Prop} (h : PtR w cls row val pb) (hk : Kpt p w w') (hp : ∀ k, p k → ∀ T cs, w.heap[k]? ≠ some (.cells cs T (0, 0))) : PtR w' cls row val pb :=
  ⟨fun v b hv => by
    obtain ⟨a1, a2, a3, a4⟩ := h.hb v b hv
    refine ⟨a1.kept hk fun hh => hp b hh _ _ a1, ?_, a3, a4⟩
    refine ⟨a2.1, ?_⟩
    rcases a2.2 with h0 | ⟨g, cap, cur, e1, e2, e3, r⟩
    · exact .inl h0
    · exact .inr ⟨g, cap, cur, e1, e2, (hk.block g (lt_of_block e3) fun hh => hp g hh _ _ e3).trans e3, r⟩, h.mem, h.nd, h.ne, fun k hk' => Nat.lt_of_lt_of_le (h.lt k hk') hk.size⟩
theorem PtS.below (h : PtS w gp gm cls row val pb) (hb : Below w.heap.size w w') : PtS w' gp gm cls row val pb :=
  ⟨h.hp.below hb h.hp.lt, h.hm.below hb h.hm.lt, h.pm, h.np, h.r.below hb⟩
theorem PtR.self {v : Int} {b : Nat} (h : PtR w cls row val pb) (hv : cls v = some b) : v ∈ row b := (h.mem v b hv v).2 hv
theorem PtR.pos {v : Int} {b : Nat} (h : PtR w cls row val pb) (hv : cls v = some b) : 0 < (row b).length := List.length_pos_of_mem (h.self hv)
theorem PtS.gmp (h : PtS w gp gm cls row val pb) : gp ≠ gm := fun e => h.np (e ▸ h.pm)
theorem PtS.bm {v : Int} {b : Nat} (h : PtS w gp gm cls row val pb) (hv : cls v = some b) : b ≠ gm := h.hm.ne (h.r.hb v b hv).1
theorem PtR.single (h : PtR w cls row val pb) {k : Int} (hk : cls k = none) {gA gB : Nat} (hA : At w' gA [.int .i64 k] 3) (hB : At w' gB [.slice (some ⟨gA, 0, none⟩) 1 1] 25) (hgA : w.heap.size ≤ gA) (hgB : w.heap.size ≤ gB) (hAB : gA ≠ gB) {p : Nat → Prop} (hkp : Kpt p w w') (hp : ∀ k, p k → ∀ T cs, w.heap[k]? ≠ some (.cells cs T (0, 0))) :
    PtR w' (fun x => if x = k then some gB else cls x) (fun b => if b = gB then [k] else row b) (fun b => if b = gB then .slice (some ⟨gA, 0, none⟩) 1 1 else val b) (ext pb w w') := by
  have h' := h.kept hkp hp
  have hold : ∀ v b, cls v = some b → b ≠ gB := fun v b hv e => by
    have := h.lt b (h.hb v b hv).2.2.1
    omega
  have hcell : w'.ownsRow 0 3 1 (.slice (some ⟨gA, 0, none⟩) 1 1) 1 [.int .i64 k] := ⟨rfl, .inr ⟨gA, 1, #[.int .i64 k], rfl, Nat.zero_le _, hA, Nat.le_refl _, by decide, rfl, rfl⟩⟩
  have hcase : ∀ v b, (if v = k then some gB else cls v) = some b → (v = k ∧ b = gB) ∨ (v ≠ k ∧ cls v = some b ∧ b ≠ gB) := fun v b hv => by
    by_cases e : v = k
    · rw [if_pos e] at hv
      cases hv
      exact .inl ⟨e, rfl⟩
    · rw [if_neg e] at hv
      exact .inr ⟨e, hv, hold v b hv⟩
  have hnew : ∀ v b kk, cls v = some b → (val b).ownBlock = some kk → kk ≠ gA := fun v b kk hv e1 e => by
    have := h.lt kk ((h.hb v b hv).2.2.2 kk e1)
    omega
  refine ⟨fun v b hv => ?_, fun v b hv x => ?_, fun v b hv => ?_, fun v v' b b' kk hv hv' hne e1 e2 => ?_, fun kk hkk => ?_⟩
  · rcases hcase v b hv with ⟨rfl, rfl⟩ | ⟨e, hv, hb⟩
    · rw [if_pos rfl, if_pos rfl]
      refine ⟨hB, hcell, .inr ⟨hgB, hB.lt⟩, fun kk e => ?_⟩
      cases e
      exact .inr ⟨hgA, hA.lt⟩
    · rw [if_neg hb, if_neg hb]
      obtain ⟨a1, a2, a3, a4⟩ := h'.hb v b hv
      exact ⟨a1, a2, .inl a3, fun kk e => .inl (a4 kk e)⟩
  · rcases hcase v b hv with ⟨rfl, rfl⟩ | ⟨e, hv, hb⟩
    · rw [if_pos rfl, List.mem_singleton]
      constructor
      · rintro rfl
        rw [if_pos rfl]
      · intro hx
        rcases hcase x _ hx with ⟨rfl, _⟩ | ⟨_, hx, hb⟩
        · rfl
        · exact absurd rfl hb
    · rw [if_neg hb, h.mem v b hv x]
      by_cases ex : x = k
      · subst ex
        rw [if_pos rfl, hk]
        constructor
        · intro hh; cases hh
        · intro hh; cases hh; exact absurd rfl hb
      · rw [if_neg ex]
  · rcases hcase v b hv with ⟨rfl, rfl⟩ | ⟨e, hv, hb⟩
    · rw [if_pos rfl]; simp
    · rw [if_neg hb]; exact h.nd v b hv
  · rcases hcase v b hv with ⟨c1, c2⟩ | ⟨e, hv2, hb⟩ <;> rcases hcase v' b' hv' with ⟨d1, d2⟩ | ⟨e', hv2', hb'⟩
    · exact absurd (c2.trans d2.symm) hne
    · rw [if_pos c2] at e1
      rw [if_neg hb'] at e2
      cases e1
      exact hnew v' b' _ hv2' e2 rfl
    · rw [if_neg hb] at e1
      rw [if_pos d2] at e2
      cases e2
      exact hnew v b _ hv2 e1 rfl
    · rw [if_neg hb] at e1
      rw [if_neg hb'] at e2
      exact h.ne v v' b b' kk hv2 hv2' hne e1 e2
  · rcases hkk with hkk | ⟨_, hkk⟩
    · exact h'.lt kk hkk
    · exact hkk

theorem zero_ptr : ∀ w : World, (zeroValue 82).run Try.prog w = .ok (.pointer none) w := fun w => by kernel_rfl
theorem PtS.look (h : PtS w gp gm cls row val pb) (v : Int) :
    (Instr.lookup 79 (.map (some gm)) (.int .i64 v) false).run Try.prog w = .ok ((ptf cls v).getD (.pointer none)) w :=
  h.hm.lookup Try.underlying79 Try.underlying3 zero_ptr v

theorem info_ints : (Try.prog.info? 25).map (·.size) = some 1 := by kernel_rfl
theorem PtS.eqp (h : PtS w gp gm cls row val pb) {v v' : Int} {b b' : Nat} (hv : cls v = some b) (hv' : cls v' = some b') :
    (binOp .eql 82 (.pointer (some ⟨b, 0, none⟩)) (.pointer (some ⟨b', 0, none⟩))).run Try.prog w = .ok (.bool (decide (b = b'))) w := by
  obtain ⟨i, hi, hs⟩ : ∃ i, Try.prog.info? 25 = some i ∧ i.size = 1 := by
    have h1 := info_ints
    cases hi : Try.prog.info? 25 with
    | none => rw [hi] at h1; cases h1
    | some i => rw [hi] at h1; exact ⟨i, rfl, by simpa using h1⟩
  by_cases hb : b = b'
  · subst hb
    rw [run_eql_ptr_same w _ Try.underlying82 hi]
    simp
  · rw [run_eql_ptr_other w Try.underlying82 hi (a := ⟨b, 0, none⟩) (b := ⟨b', 0, none⟩) (by omega) (fun e => hb (by cases e; rfl)) (ca := #[val b]) (ta := 25) (cb := #[val b']) (tb := 25) (h.r.hb v b hv).1 (h.r.hb v' b' hv').1]
    simp [hb]

set_option maxHeartbeats 4000000 in
theorem head_calls (h : PtS w gp gm cls row val pb) (v : Int) (hl : ∀ v b, cls v = some b → (row b).length ≤ 1000000) :
    Calls Try.prog 44 #[.pointer (some ⟨gp, 0, none⟩), .int .i64 v] w fun e w' => e = .returned (.tuple #[.int .i64 (match cls v with | none => 0 | some b => Lib.minOf (row b)), .bool (cls v).isSome]) ∧ w' = w := by
  have q0 := h.hp.cell 0 rfl
  have hlk := h.look v
  cases hv : cls v with
  | none =>
    rw [ptf_none hv, Option.getD_none] at hlk
    clear h hl hv
    go_enter Try.func44, Try.ntmps44
    go_wp2
    go_ret2
    exact ⟨rfl, rfl⟩
  | some b =>
    rw [ptf_some hv, Option.getD_some] at hlk
    obtain ⟨a1, a2, _, _⟩ := h.r.hb v b hv
    have hpos := h.r.pos hv
    have hll := hl v b hv
    obtain ⟨g, c, hval, _, _⟩ := a2.form hpos
    rw [hval] at a1 a2
    obtain ⟨n, hn⟩ : ∃ n, (row b).length = n := ⟨_, rfl⟩
    have c0 := a1.cell 0 rfl
    rw [hn] at c0 hpos hll
    have hmin := Try.slices_Min_int g 0 n c (row b) w hpos (by omega) (by omega) (fun j hj => by
      rw [Nat.zero_add]
      exact (a2.cellAt j (by omega)).trans (by rw [ints_at _ (List.getElem?_eq_getElem hj), List.getD_eq_getElem?_getD, List.getElem?_eq_getElem hj]; rfl))
    rw [← hn, List.take_length, hn] at hmin
    have HMIN := Lib.hid hmin
    obtain ⟨mn, hmn⟩ : ∃ mn, Lib.minOf (row b) = mn := ⟨_, rfl⟩
    rw [hmn] at HMIN
    dsimp only
    rw [hmn]
    clear hmin h hl hv a1 a2 hval hn hmn
    go_enter Try.func44, Try.ntmps44
    go_wp2_with fail
    refine HMIN.out.mono ?_
    rintro e w' ⟨rfl, rfl⟩
    go_wp2
    go_ret2
    exact ⟨rfl, rfl⟩
end
end Go.Proofs.Ythomnpgpbhpojaa.Pt

/- parts.Parts[int]: Same, Members. -/
namespace Go.Proofs.Ythomnpgpbhpojaa.Pt
open Go Go.RowKit Go.Proofs.Ythomnpgpbhpojaa.Mem Go.Proofs.Ythomnpgpbhpojaa.Sl Go.Proofs.Ythomnpgpbhpojaa.Lw Go.Proofs.YthomnpgpbhpojaaW.PrintWords Go.Proofs.YthomnpgpbhpojaaW.PrintLast
attribute [local go_sem ↓] Go.wp_at_zero Go.wp_at_succ
set_option linter.unusedSimpArgs false
set_option linter.unusedVariables false

def tb22_1.T1 : Bool × List (List Nat × List Nat) := (true, [([], []), ([0], [0]), ([1], [1]), ([2], [2]), ([], []), ([3, 4], [3, 4]), ([5], [5]), ([6], [6]), ([7], [7]), ([8, 7], [7, 8]), ([9, 7], [7, 9]), ([10, 7], [7, 10]), ([7], [7]), ([11, 12, 7], [7, 11, 12]), ([7], [7]), ([14, 7], [7, 14]), ([15, 7], [7, 15]), ([16, 7], [7, 16]), ([7], [7]), ([17, 18, 7], [7, 17, 18]), ([13, 19, 7], [7, 13, 19]), ([7, 20], [7, 20]), ([21, 7, 0, 1, 2, 3, 4, 5, 6, 7, 8, 9, 10, 11, 12, 13, 14, 15, 16, 17, 18, 19, 20, 21], [21])])
def tb22_1.B1 : List Nat := [0, 1, 3, 7, 0, 31, 63, 127, 255, 511, 1023, 2047, 255, 8191, 255, 16639, 49407, 114943, 255, 508159, 1048575, 2097151, 4194303]
theorem tb22_1.tab1 : rtab .any (opsOf Try.f22 1) = tb22_1.T1 := by kernel_rfl
theorem tb22_1.bits1 : waitsOk tb22_1.T1.2 tb22_1.B1 = true := by kernel_rfl
section
variable {w w' : World} {gp gm : Nat} {cls : Int → Option Nat} {row : Nat → List Int} {val : Nat → Value} {pb : Nat → Prop}
set_option maxHeartbeats 4000000 in
set_option maxRecDepth 100000 in
theorem same_calls (h : PtS w gp gm cls row val pb) (a b : Int) :
    Calls Try.prog 22 #[.pointer (some ⟨gp, 0, none⟩), .int .i64 a, .int .i64 b] w fun e w' => e = .returned (.bool (decide (cls a ≠ none ∧ cls a = cls b))) ∧ Below w.heap.size w w' := by
  have hd := h.below (w' := w.drew) (Below.refl _ _).drew
  have q0 := h.hp.cell 0 rfl
  have la := hd.look a
  have lb := hd.look b
  obtain ⟨ans, hans⟩ : ∃ ans, decide (cls a ≠ none ∧ cls a = cls b) = ans := ⟨_, rfl⟩
  rw [hans]
  cases ha : cls a with
  | none =>
    rw [ptf_none ha, Option.getD_none] at la
    have HA := Lib.hid (show ans = false by rw [← hans]; exact decide_eq_false fun h => h.1 ha)
    obtain ⟨va, hva⟩ : ∃ va, Value.pointer none = va := ⟨_, rfl⟩
    obtain ⟨vb, hvb⟩ : ∃ vb, (ptf cls b).getD (.pointer none) = vb := ⟨_, rfl⟩
    rw [hvb] at lb
    rw [hva] at la
    subst hva
    clear h hd ha hans hvb
    go_enter Try.func22, Try.ntmps22
    go_upto_region 1 with (fail)
    refine start_ (n := 23) (S := fun w' => w'.cell? ⟨gp, 0, none⟩ = some (.map (some gm)) ∧ (Instr.lookup 79 (.map (some gm)) (.int .i64 a) false).run Try.prog w' = .ok (.pointer none) w') (ds := []) (bA 23 0) (by kernel_rfl) rfl rfl ⟨q0, la⟩ (fun hHeld => ?_)
    refine with_tabW tb22_1.tab1 tb22_1.bits1 (fun HT_ HW_ => ?_)
    refine pw_ 0 7 (bA 23 1) HT_.out ?_
    refine pw_ 1 8 (bA 23 3) HT_.out ?_
    refine pw_ 2 9 (bA 23 7) HT_.out ?_
    refine pw_ 4 11 (bA 23 23) HT_.out ?_
    refine tw_ 3 10 (bA 23 31) HT_.out HW_.out hHeld (hv := by rintro w' ⟨s0, s1⟩; go_simp; with_reducible rfl) (h := ?_)
    refine tw_ 5 12 (bA 23 63) HT_.out HW_.out hHeld (hv := by rintro w' ⟨s0, s1⟩; go_simp; with_reducible rfl) (h := ?_)
    refine pw_ 6 13 (bA 23 127) HT_.out ?_
    refine pw_ 7 14 (bA 23 255) HT_.out ?_
    refine pu_ 8 15 (bA 23 511) HT_.out ?_
    refine pu_ 9 16 (bA 23 1023) HT_.out ?_
    refine pu_ 10 17 (bA 23 2047) HT_.out ?_
    refine pu_ 11 18 (bA 23 4095) HT_.out ?_
    refine pu_ 12 19 (bA 23 8191) HT_.out ?_
    refine pu_ 13 20 (bA 23 16383) HT_.out ?_
    refine pu_ 14 21 (bA 23 32767) HT_.out ?_
    refine pu_ 15 22 (bA 23 65535) HT_.out ?_
    refine pu_ 16 23 (bA 23 131071) HT_.out ?_
    refine pu_ 17 24 (bA 23 262143) HT_.out ?_
    refine pu_ 18 25 (bA 23 524287) HT_.out ?_
    refine pu_ 19 26 (bA 23 1048575) HT_.out ?_
    refine pu_ 20 27 (bA 23 2097151) HT_.out ?_
    refine pw_ 21 28 (bA 23 4194303) HT_.out ?_
    refine pw_ 22 6 (bA 23 8388607) HT_.out ?_
    refine done_ (done_of HT_.out (by kernel_rfl)) ?_
    clear hHeld HT_ HW_
    go_wp2
    go_ret
    exact ⟨by rw [HA.out]; rfl, (Below.refl _ _).drew⟩
  | some ba =>
    rw [ptf_some ha, Option.getD_some] at la
    cases hb : cls b with
    | none =>
      rw [ptf_none hb, Option.getD_none] at lb
      have HA := Lib.hid (show ans = false by rw [← hans, ha, hb]; simp)
      clear h hd ha hb hans
      go_enter Try.func22, Try.ntmps22
      go_upto_region 1 with (fail)
      refine start_ (n := 23) (S := fun w' => w'.cell? ⟨gp, 0, none⟩ = some (.map (some gm)) ∧ (Instr.lookup 79 (.map (some gm)) (.int .i64 a) false).run Try.prog w' = .ok (.pointer (some ⟨ba, 0, none⟩)) w' ∧ (Instr.lookup 79 (.map (some gm)) (.int .i64 b) false).run Try.prog w' = .ok (.pointer none) w') (ds := []) (bA 23 0) (by kernel_rfl) rfl rfl ⟨q0, la, lb⟩ (fun hHeld => ?_)
      refine with_tabW tb22_1.tab1 tb22_1.bits1 (fun HT_ HW_ => ?_)
      refine pw_ 0 7 (bA 23 1) HT_.out ?_
      refine pw_ 1 8 (bA 23 3) HT_.out ?_
      refine pw_ 2 9 (bA 23 7) HT_.out ?_
      refine pw_ 4 11 (bA 23 23) HT_.out ?_
      refine tw_ 3 10 (bA 23 31) HT_.out HW_.out hHeld (hv := by rintro w' ⟨s0, s1, s2⟩; go_simp; with_reducible rfl) (h := ?_)
      refine tw_ 5 12 (bA 23 63) HT_.out HW_.out hHeld (hv := by rintro w' ⟨s0, s1, s2⟩; go_simp; with_reducible rfl) (h := ?_)
      refine pw_ 6 13 (bA 23 127) HT_.out ?_
      refine pw_ 7 14 (bA 23 255) HT_.out ?_
      refine pw_ 8 15 (bA 23 511) HT_.out ?_
      refine pw_ 9 16 (bA 23 1023) HT_.out ?_
      refine pw_ 10 17 (bA 23 2047) HT_.out ?_
      refine pw_ 12 19 (bA 23 6143) HT_.out ?_
      refine pw_ 14 21 (bA 23 22527) HT_.out ?_
      refine pw_ 15 22 (bA 23 55295) HT_.out ?_
      refine pw_ 16 23 (bA 23 120831) HT_.out ?_
      refine pw_ 18 25 (bA 23 382975) HT_.out ?_
      refine tw_ 11 18 (bA 23 385023) HT_.out HW_.out hHeld (hv := by rintro w' ⟨s0, s1, s2⟩; go_simp; with_reducible rfl) (h := ?_)
      refine tw_ 13 20 (bA 23 393215) HT_.out HW_.out hHeld (hv := by rintro w' ⟨s0, s1, s2⟩; go_simp; with_reducible rfl) (h := ?_)
      refine tw_ 17 24 (bA 23 524287) HT_.out HW_.out hHeld (hv := by rintro w' ⟨s0, s1, s2⟩; go_simp; with_reducible rfl) (h := ?_)
      refine tw_ 19 26 (bA 23 1048575) HT_.out HW_.out hHeld (hv := by rintro w' ⟨s0, s1, s2⟩; go_simp; with_reducible rfl) (h := ?_)
      refine pw_ 20 27 (bA 23 2097151) HT_.out ?_
      refine pw_ 21 28 (bA 23 4194303) HT_.out ?_
      refine pw_ 22 6 (bA 23 8388607) HT_.out ?_
      refine done_ (done_of HT_.out (by kernel_rfl)) ?_
      clear hHeld HT_ HW_
      go_wp2
      go_ret
      exact ⟨by rw [HA.out]; rfl, (Below.refl _ _).drew⟩
    | some bb =>
      rw [ptf_some hb, Option.getD_some] at lb
      have heq := hd.eqp ha hb
      have HA := Lib.hid (show ans = decide (ba = bb) by rw [← hans, ha, hb]; simp)
      clear h hd ha hb hans
      go_enter Try.func22, Try.ntmps22
      go_upto_region 1 with (fail)
      refine start_ (n := 23) (S := fun w' => w'.cell? ⟨gp, 0, none⟩ = some (.map (some gm)) ∧ (Instr.lookup 79 (.map (some gm)) (.int .i64 a) false).run Try.prog w' = .ok (.pointer (some ⟨ba, 0, none⟩)) w' ∧ (Instr.lookup 79 (.map (some gm)) (.int .i64 b) false).run Try.prog w' = .ok (.pointer (some ⟨bb, 0, none⟩)) w') (ds := []) (bA 23 0) (by kernel_rfl) rfl rfl ⟨q0, la, lb⟩ (fun hHeld => ?_)
      refine with_tabW tb22_1.tab1 tb22_1.bits1 (fun HT_ HW_ => ?_)
      refine pw_ 0 7 (bA 23 1) HT_.out ?_
      refine pw_ 1 8 (bA 23 3) HT_.out ?_
      refine pw_ 2 9 (bA 23 7) HT_.out ?_
      refine pw_ 4 11 (bA 23 23) HT_.out ?_
      refine tw_ 3 10 (bA 23 31) HT_.out HW_.out hHeld (hv := by rintro w' ⟨s0, s1, s2⟩; go_simp; with_reducible rfl) (h := ?_)
      refine tw_ 5 12 (bA 23 63) HT_.out HW_.out hHeld (hv := by rintro w' ⟨s0, s1, s2⟩; go_simp; with_reducible rfl) (h := ?_)
      refine pw_ 6 13 (bA 23 127) HT_.out ?_
      refine pw_ 7 14 (bA 23 255) HT_.out ?_
      refine pw_ 8 15 (bA 23 511) HT_.out ?_
      refine pw_ 9 16 (bA 23 1023) HT_.out ?_
      refine pw_ 10 17 (bA 23 2047) HT_.out ?_
      refine pw_ 12 19 (bA 23 6143) HT_.out ?_
      refine pw_ 14 21 (bA 23 22527) HT_.out ?_
      refine pw_ 15 22 (bA 23 55295) HT_.out ?_
      refine pw_ 16 23 (bA 23 120831) HT_.out ?_
      refine pw_ 18 25 (bA 23 382975) HT_.out ?_
      refine tw_ 11 18 (bA 23 385023) HT_.out HW_.out hHeld (hv := by rintro w' ⟨s0, s1, s2⟩; go_simp; with_reducible rfl) (h := ?_)
      refine tw_ 13 20 (bA 23 393215) HT_.out HW_.out hHeld (hv := by rintro w' ⟨s0, s1, s2⟩; go_simp; with_reducible rfl) (h := ?_)
      refine tw_ 17 24 (bA 23 524287) HT_.out HW_.out hHeld (hv := by rintro w' ⟨s0, s1, s2⟩; go_simp; with_reducible rfl) (h := ?_)
      refine tw_ 19 26 (bA 23 1048575) HT_.out HW_.out hHeld (hv := by rintro w' ⟨s0, s1, s2⟩; go_simp; with_reducible rfl) (h := ?_)
      refine one_ (i := 20) (N := some 27) (bA 23 2097151) rfl rfl (one_of HT_.out (by kernel_rfl)) (by decide) (fun K hK => ?_)
      refine value_ (w1 := ?_) (v := ?_) (by rfl) rfl ?_ ?_
      rotate_left 2
      · go_simp
        constructor
        · rfl
        · rfl
      refine hK.out _ _ ⟨q0, la, lb⟩ (fun hHeld => ?_)
      clear hK K
      refine norm_ (a' := ?_) ?_ ?_
      rotate_left
      · show Act.put _ (some 27) _ = _
        simp only [Act.put, pA, pB, pC, pD, pE]; rfl
      refine pw_ 21 28 (bA 23 4194303) HT_.out ?_
      refine pw_ 22 6 (bA 23 8388607) HT_.out ?_
      refine done_ (done_of HT_.out (by kernel_rfl)) ?_
      clear hHeld HT_ HW_
      go_wp2
      go_ret
      exact ⟨by rw [HA.out]; rfl, (Below.refl _ _).drew⟩

def mems (cls : Int → Option Nat) (row : Nat → List Int) (v : Int) : List Int := match cls v with | none => [] | some b => sorted (row b)
set_option maxHeartbeats 4000000 in
theorem members_calls (h : PtS w gp gm cls row val pb) (v : Int) (hl : ∀ v b, cls v = some b → (row b).length ≤ 1000000) :
    Calls Try.prog 21 #[.pointer (some ⟨gp, 0, none⟩), .int .i64 v] w fun e w' => ∃ u, e = .returned u ∧ w'.ownsRow w.heap.size 3 1 u (mems cls row v).length (ints (mems cls row v)) ∧ Below w.heap.size w w' := by
  have q0 := h.hp.cell 0 rfl
  have hlk := h.look v
  unfold mems
  cases hv : cls v with
  | none =>
    rw [ptf_none hv, Option.getD_none] at hlk
    clear h hl hv
    go_enter Try.func21, Try.ntmps21
    go_wp2
    go_ret
    exact ⟨_, rfl, World.ownsRow_nil _ _ _ _, Below.refl _ _⟩
  | some b =>
    rw [ptf_some hv, Option.getD_some] at hlk
    obtain ⟨a1, a2, _, _⟩ := h.r.hb v b hv
    obtain ⟨A, c, hval⟩ := own_slice a2
    rw [hval] at a1 a2
    have c0 := a1.cell 0 rfl
    have HCL := Lib.hid (clone_calls w A c (row b) (RdI.of_own a2).1 (hl v b hv))
    have HL := Lib.hid (hl v b hv)
    obtain ⟨r, hr⟩ : ∃ r, row b = r := ⟨_, rfl⟩
    dsimp only
    rw [hr] at HCL HL c0 ⊢
    clear h hl hv a1 a2 hval hr
    go_enter Try.func21, Try.ntmps21
    go_wp2_with fail
    refine HCL.out.mono ?_
    clear HCL
    rintro e w1 ⟨u, rfl, ho, hb1⟩
    have HS := Lib.hid (sort_calls w1 w.heap.size u r ho HL.out)
    have HO := Lib.hid (And.intro ho hb1)
    clear ho hb1
    go_wp2_with fail
    refine HS.out.mono ?_
    clear HS
    rintro e w2 ⟨rfl, ho2, hg⟩
    have HO2 := Lib.hid (And.intro ho2 (HO.out.2.grown hg HO.out.2.size fun k hk => (HO.out.1.lt k hk).1))
    clear ho2 hg
    go_wp2
    go_ret
    exact ⟨_, rfl, by rw [sorted_length]; exact HO2.out.1, HO2.out.2⟩
end
end Go.Proofs.Ythomnpgpbhpojaa.Pt

/- parts.Parts[int]: Add, Burst. -/
namespace Go.Proofs.Ythomnpgpbhpojaa.Pt
open Go Go.RowKit Go.Proofs.Ythomnpgpbhpojaa.Mem Go.Proofs.Ythomnpgpbhpojaa.Sl Go.Proofs.Ythomnpgpbhpojaa.Lw Go.Proofs.YthomnpgpbhpojaaW.PrintWords Go.Proofs.YthomnpgpbhpojaaW.PrintLast
attribute [local go_sem ↓] Go.wp_at_zero Go.wp_at_succ
set_option linter.unusedSimpArgs false
set_option linter.unusedVariables false

theorem kpt_put {p : Nat → Prop} {a w : World} (h : Kpt p a w) {b : Nat} (hb : b < a.heap.size → p b) (o : Obj) : Kpt p a (putObj w b o) :=
  ⟨h.os, h.tape, h.output, by rw [putObj_size]; exact h.size, fun k hk hn => (putObj_far (fun e => hn (by subst e; exact hb hk))).trans (h.block k hk hn)⟩
theorem ptf_upd {cls : Int → Option Nat} {k : Int} {g : Nat} : updV (ptf cls) k (some (.pointer (some ⟨g, 0, none⟩))) = ptf (fun x => if x = k then some g else cls x) := by
  funext x
  unfold updV ptf
  dsimp only
  by_cases h : x = k
  · rw [if_pos h, if_pos h]; rfl
  · rw [if_neg h, if_neg h]
theorem upd_map (w : World) (gm : Nat) {f : Int → Option Value} (h : MQ w gm f) (k : Int) (u : Value) :
    ∃ o, (Instr.mapUpdate 79 (.map (some gm)) (.int .i64 k) u).run Try.prog w = .ok () (putObj w gm o) ∧ MQ (putObj w gm o) gm (updV f k (some u)) :=
  h.update Try.underlying79 Try.underlying3 k u
theorem map_no {w : World} {gm : Nat} {f : Int → Option Value} (h : MQ w gm f) : ∀ k, k = gm → ∀ T cs, w.heap[k]? ≠ some (.cells cs T (0, 0)) := by
  rintro k rfl T cs hc
  obtain ⟨es, cl, hb, _⟩ := h
  rw [hb] at hc
  cases hc

section
variable {w w' : World} {gp gm : Nat} {cls : Int → Option Nat} {row : Nat → List Int} {val : Nat → Value} {pb : Nat → Prop}
set_option maxHeartbeats 4000000 in
theorem add_no (h : PtS w gp gm cls row val pb) (k : Int) (hk : cls k ≠ none) :
    Calls Try.prog 30 #[.pointer (some ⟨gp, 0, none⟩), .int .i64 k] w fun e w' => e = .returned (.bool false) ∧ w' = w := by
  have q0 := h.hp.cell 0 rfl
  have hlk := h.look k
  obtain ⟨b, hb⟩ := Option.ne_none_iff_exists'.1 hk
  rw [ptf_some hb, Option.getD_some] at hlk
  clear h hk hb
  go_enter Try.func30, Try.ntmps30
  go_wp2
  go_ret
  exact ⟨rfl, rfl⟩
set_option maxHeartbeats 4000000 in
theorem add_calls (h : PtS w gp gm cls row val pb) (k : Int) (hk : cls k = none) :
    Calls Try.prog 30 #[.pointer (some ⟨gp, 0, none⟩), .int .i64 k] w fun e w' => e = .returned (.bool true) ∧ Kpt pb w w' ∧
      PtS w' gp gm (fun x => if x = k then some (w.heap.size + 1) else cls x) (fun b => if b = w.heap.size + 1 then [k] else row b) (fun b => if b = w.heap.size + 1 then .slice (some ⟨w.heap.size, 0, none⟩) 1 1 else val b) (ext pb w w') := by
  have q0 := h.hp.cell 0 rfl
  have hlk := h.look k
  rw [ptf_none hk, Option.getD_none] at hlk
  have hgl := h.hp.lt
  have hgn : gp ≠ w.heap.size := Nat.ne_of_lt hgl
  have hgn1 : gp ≠ w.heap.size + 1 := by omega
  obtain ⟨o, hup, hm2⟩ := upd_map ((w.alloc (.cells #[.int .i64 k] 3)).alloc (.cells #[.slice (some ⟨w.heap.size, 0, none⟩) 1 1] 25)) gm h.hm.al.al k (.pointer (some ⟨w.heap.size + 1, 0, none⟩))
  rw [ptf_upd] at hm2
  have hkp : Kpt (· = gm) w (putObj ((w.alloc (.cells #[.int .i64 k] 3)).alloc (.cells #[.slice (some ⟨w.heap.size, 0, none⟩) 1 1] 25)) gm o) := kpt_put (((Kpt.refl (· = gm) w).alloc _).alloc _) (fun _ => rfl) o
  have hA : At (putObj ((w.alloc (.cells #[.int .i64 k] 3)).alloc (.cells #[.slice (some ⟨w.heap.size, 0, none⟩) 1 1] 25)) gm o) w.heap.size [.int .i64 k] 3 := (At.al (At.made rfl rfl)).putObj (by have := h.hm.lt; omega)
  have hB : At (putObj ((w.alloc (.cells #[.int .i64 k] 3)).alloc (.cells #[.slice (some ⟨w.heap.size, 0, none⟩) 1 1] 25)) gm o) (w.heap.size + 1) [.slice (some ⟨w.heap.size, 0, none⟩) 1 1] 25 := (At.made (by simp) rfl).putObj (by have := h.hm.lt; omega)
  have hfin : PtS (putObj ((w.alloc (.cells #[.int .i64 k] 3)).alloc (.cells #[.slice (some ⟨w.heap.size, 0, none⟩) 1 1] 25)) gm o) gp gm (fun x => if x = k then some (w.heap.size + 1) else cls x) (fun b => if b = w.heap.size + 1 then [k] else row b) (fun b => if b = w.heap.size + 1 then .slice (some ⟨w.heap.size, 0, none⟩) 1 1 else val b) (ext pb w (putObj ((w.alloc (.cells #[.int .i64 k] 3)).alloc (.cells #[.slice (some ⟨w.heap.size, 0, none⟩) 1 1] 25)) gm o)) :=
    ⟨(h.hp.al.al).putObj h.gmp, hm2, .inl h.pm, by rintro (hh | ⟨hh, _⟩); exact h.np hh; omega, h.r.single hk hA hB (Nat.le_refl _) (Nat.le_succ _) (by omega) hkp (map_no h.hm)⟩
  have HF := Lib.hid (And.intro (hkp.mono (p' := pb) fun k _ e => e ▸ h.pm) hfin)
  clear h hk hm2 hkp hA hB hfin hgl
  go_enter Try.func30, Try.ntmps30
  go_wp2
  go_ret
  exact ⟨rfl, HF.out⟩

theorem PtR.mono {p2 : Nat → Prop} (h : PtR w cls row val pb) (hp : ∀ k, pb k → p2 k) (hl : ∀ k, p2 k → k < w.heap.size) : PtR w cls row val p2 :=
  ⟨fun v b hv => by
    obtain ⟨a1, a2, a3, a4⟩ := h.hb v b hv
    exact ⟨a1, a2, hp _ a3, fun k e => hp _ (a4 k e)⟩, h.mem, h.nd, h.ne, hl⟩
theorem PtR.less (h : PtR w cls row val pb) {b0 : Nat} (l : List Int) (hl : ∀ x, x ∈ l ↔ cls x = some b0) : PtR w (fun x => if x ∈ l then none else cls x) row val pb := by
  have hc : ∀ v b, (if v ∈ l then none else cls v) = some b → cls v = some b ∧ b ≠ b0 := fun v b hv => by
    by_cases e : v ∈ l
    · rw [if_pos e] at hv; cases hv
    · rw [if_neg e] at hv
      exact ⟨hv, fun hh => e ((hl v).2 (hh ▸ hv))⟩
  refine ⟨fun v b hv => h.hb v b (hc v b hv).1, fun v b hv x => ?_, fun v b hv => h.nd v b (hc v b hv).1, fun v v' b b' k hv hv' hne => h.ne v v' b b' k (hc v b hv).1 (hc v' b' hv').1 hne, h.lt⟩
  obtain ⟨h1, h2⟩ := hc v b hv
  rw [h.mem v b h1 x]
  by_cases e : x ∈ l
  · rw [if_pos e, (hl x).1 e]
    constructor
    · intro hh; cases hh; exact absurd rfl h2
    · intro hh; cases hh
  · rw [if_neg e]

structure BuI (w : World) (gp gm b0 : Nat) (cls : Int → Option Nat) (row : Nat → List Int) (l : List Int) (pb : Nat → Prop) (i : Nat) (W : World) (cls' : Int → Option Nat) (row' : Nat → List Int) (val' : Nat → Value) : Prop where
  k : Kpt (· = gm) w W
  m : MQ W gm (fun x => if x ∈ l.drop i then some (.pointer (some ⟨b0, 0, none⟩)) else ptf cls' x)
  r : PtR W cls' row' val' (ext pb w W)
  no : ∀ x, x ∈ l.drop i → cls' x = none
  si : ∀ x, x ∈ l.take i → ∃ b, cls' x = some b ∧ row' b = [x]
  ot : ∀ x, x ∉ l → cls' x = cls x ∧ ∀ b, cls x = some b → row' b = row b
theorem BuI.start (h : PtS w gp gm cls row val pb) {v : Int} {b0 : Nat} (hv : cls v = some b0) : BuI w gp gm b0 cls row (row b0) pb 0 w (fun x => if x ∈ row b0 then none else cls x) row val := by
  have hl := h.r.mem v b0 hv
  refine ⟨Kpt.refl _ _, ?_, (h.r.less (row b0) hl).mono (fun k hk => .inl hk) (fun k hk => ?_), fun x hx => ?_, fun x hx => by simp at hx, fun x hx => ⟨if_neg hx, fun _ _ => rfl⟩⟩
  · rw [List.drop_zero, show (fun x => if x ∈ row b0 then some (Value.pointer (some ⟨b0, 0, none⟩)) else ptf (fun x => if x ∈ row b0 then none else cls x) x) = ptf cls from ?_]
    · exact h.hm
    · funext x
      unfold ptf
      dsimp only
      by_cases e : x ∈ row b0
      · rw [if_pos e, (hl x).1 e]; rfl
      · rw [if_neg e, if_neg e]
  · rcases hk with hk | hk
    · exact h.r.lt k hk
    · omega
  · rw [List.drop_zero] at hx
    exact if_pos hx
theorem BuI.step {b0 i : Nat} {l : List Int} {W W' : World} {cls' : Int → Option Nat} {row' : Nat → List Int} {val' : Nat → Value} (h : BuI w gp gm b0 cls row l pb i W cls' row' val') {x : Int} (hx : l[i]? = some x) (hnd : l.Nodup) {gA gB : Nat} (hA : At W' gA [.int .i64 x] 3) (hB : At W' gB [.slice (some ⟨gA, 0, none⟩) 1 1] 25) (hgA : W.heap.size ≤ gA) (hgB : W.heap.size ≤ gB) (hAB : gA ≠ gB) (hk : Kpt (· = gm) W W')
    (hm : MQ W' gm (updV (fun x => if x ∈ l.drop i then some (.pointer (some ⟨b0, 0, none⟩)) else ptf cls' x) x (some (.pointer (some ⟨gB, 0, none⟩))))) :
    BuI w gp gm b0 cls row l pb (i + 1) W' (fun y => if y = x then some gB else cls' y) (fun b => if b = gB then [x] else row' b) (fun b => if b = gB then .slice (some ⟨gA, 0, none⟩) 1 1 else val' b) := by
  have hi : i < l.length := (List.getElem?_eq_some_iff.1 hx).1
  have hd : l.drop i = x :: l.drop (i + 1) := by rw [List.drop_eq_getElem_cons hi]; congr 1; rw [List.getElem?_eq_getElem hi] at hx; exact Option.some.inj hx
  have htk : l.take (i + 1) = l.take i ++ [x] := by rw [List.take_add_one, hx]; rfl
  have hxl : x ∈ l := List.mem_of_getElem? hx
  have hdn : (x :: l.drop (i + 1)).Nodup := hd ▸ (List.drop_sublist i l).nodup hnd
  have hxd : x ∉ l.drop (i + 1) := (List.nodup_cons.1 hdn).1
  have hxt : x ∉ l.take i := fun hh => by
    have h1 : (l.take i ++ l.drop i).Nodup := by rw [List.take_append_drop]; exact hnd
    rw [List.nodup_append] at h1
    exact h1.2.2 x hh x (by rw [hd]; simp) rfl
  have hnone : cls' x = none := h.no x (by rw [hd]; simp)
  have hold : ∀ y b, cls' y = some b → b ≠ gB := fun y b hv e => by
    have := h.r.lt b (h.r.hb y b hv).2.2.1
    omega
  have hs1 := h.r.single hnone hA hB hgA hgB hAB hk (map_no h.m)
  have hks := hk.size
  have hws := h.k.size
  refine ⟨h.k.trans hk, ?_, hs1.mono (fun k hk => ?_) (fun k hk => ?_), fun y hy => ?_, fun y hy => ?_, fun y hy => ?_⟩
  · rw [show (fun y => if y ∈ l.drop (i + 1) then some (Value.pointer (some ⟨b0, 0, none⟩)) else ptf (fun y => if y = x then some gB else cls' y) y) = updV (fun x => if x ∈ l.drop i then some (.pointer (some ⟨b0, 0, none⟩)) else ptf cls' x) x (some (.pointer (some ⟨gB, 0, none⟩))) from ?_]
    · exact hm
    · funext y
      unfold updV ptf
      dsimp only
      rw [hd]
      by_cases e : y = x
      · subst e
        rw [if_neg hxd, if_pos rfl, if_pos rfl]
        rfl
      · rw [if_neg e, if_neg e]
        by_cases e2 : y ∈ l.drop (i + 1)
        · rw [if_pos e2, if_pos (by simp [e2])]
        · rw [if_neg e2, if_neg (by simp [e, e2])]
  · rcases hk with (hk | hk) | hk
    · exact .inl hk
    · exact .inr (by omega)
    · exact .inr (by omega)
  · rcases hk with hk | hk
    · have := h.r.lt k (.inl hk)
      omega
    · exact hk.2
  · rw [if_neg (fun e : y = x => hxd (e ▸ hy))]
    exact h.no y (by rw [hd]; simp [hy])
  · rw [htk, List.mem_append, List.mem_singleton] at hy
    by_cases e : y = x
    · subst e
      exact ⟨gB, if_pos rfl, if_pos rfl⟩
    · rw [if_neg e]
      obtain ⟨b, h1, h2⟩ := h.si y (hy.resolve_right e)
      exact ⟨b, h1, by rw [if_neg (hold y b h1)]; exact h2⟩
  · rw [if_neg (fun e : y = x => hy (e ▸ hxl))]
    obtain ⟨h1, h2⟩ := h.ot y hy
    exact ⟨h1, fun b hb => by rw [if_neg (hold y b (h1.trans hb))]; exact h2 b hb⟩

set_option maxHeartbeats 8000000 in
theorem burst_calls (h : PtS w gp gm cls row val pb) {v : Int} {b0 : Nat} (hv : cls v = some b0) (hl : (row b0).length ≤ 1000000) :
    Calls Try.prog 55 #[.pointer (some ⟨gp, 0, none⟩), .int .i64 v] w fun e w' => e = .returned (.bool true) ∧ Kpt pb w w' ∧ ∃ cls' row' val', PtS w' gp gm cls' row' val' (ext pb w w') ∧
      (∀ x, x ∈ row b0 → ∃ b, cls' x = some b ∧ row' b = [x]) ∧ ∀ x, x ∉ row b0 → cls' x = cls x ∧ ∀ b, cls x = some b → row' b = row b := by
  have q0 := h.hp.cell 0 rfl
  have hlk := h.look v
  rw [ptf_some hv, Option.getD_some] at hlk
  obtain ⟨a1, a2, _, _⟩ := h.r.hb v b0 hv
  obtain ⟨g, c, hval, _, _⟩ := a2.form (h.r.pos hv)
  rw [hval] at a1 a2
  have c0 := a1.cell 0 rfl
  have hggm : g ≠ gm := by
    obtain ⟨cs, hat⟩ := Mem.own_at a2
    exact h.hm.ne hat
  have hst := BuI.start h hv
  have hnd := h.r.nd v b0 hv
  have hrd := (RdI.of_own a2).1
  have hpm := h.pm
  have hnp := h.np
  have hgp := h.gmp
  have HP := Lib.hid h.hp
  have hlt0 := h.r.lt
  obtain ⟨l, hll⟩ : ∃ l, row b0 = l := ⟨_, rfl⟩
  rw [hll] at c0 hst hnd hrd hl ⊢
  have hgm := h.hm.lt
  have HX := Lib.hid (And.intro hst (And.intro hnd (And.intro hrd (And.intro hpm (And.intro hnp (And.intro hgp hggm))))))
  clear h hv a1 a2 hval hll hst hnd hrd hpm hnp hgp hlt0 hggm
  go_enter Try.func55, Try.ntmps55
  go_wp2_with fail
  clear q0 c0 hlk
  go_loopg [20] l.length (fun kq v20 w' => ∃ i : Nat, v20 = .int .i64 (i : Int) ∧ Hid (i + kq = l.length ∧ ∃ cls' row' val', BuI w gp gm b0 cls row l pb i w' cls' row' val'))
  case atStart => exact ⟨0, rfl, Lib.hid ⟨by omega, _, _, _, HX.out.1⟩⟩
  case round =>
    obtain ⟨i, rfl, hI⟩ := hrel
    obtain ⟨hik, cls', row', val', hB⟩ := hI.out
    clear hI
    obtain ⟨_, hnd, hrd, hpm, hnp, hgp, hgg⟩ := HX.out
    have hpw : At wr gp [.map (some gm)] 81 := HP.out.kept hB.k hgp
    by_cases hi : i < l.length
    · obtain ⟨k1, rfl⟩ : ∃ k1, gk = k1 + 1 := ⟨gk - 1, by omega⟩
      obtain ⟨x, hx⟩ : ∃ x, l[i]? = some x := ⟨_, List.getElem?_eq_getElem hi⟩
      obtain ⟨b, hb, cx0⟩ := hrd i x hx
      cases hb
      have cx : wr.cell? ⟨g, i, none⟩ = some (.int .i64 x) := (World.cell?_of_block (w := w) (hB.k.block g (World.block_lt_of_cell? _ _ cx0) hgg)).trans cx0
      have q0 := hpw.cell 0 rfl
      have hgl := hpw.lt
      have hgn : gp ≠ wr.heap.size := Nat.ne_of_lt hgl
      have hgn1 : gp ≠ wr.heap.size + 1 := by omega
      have hml := hB.m.lt
      obtain ⟨o, hup, hm2⟩ := upd_map ((wr.alloc (.cells #[.int .i64 x] 3)).alloc (.cells #[.slice (some ⟨wr.heap.size, 0, none⟩) 1 1] 25)) gm hB.m.al.al x (.pointer (some ⟨wr.heap.size + 1, 0, none⟩))
      have hkp : Kpt (· = gm) wr (putObj ((wr.alloc (.cells #[.int .i64 x] 3)).alloc (.cells #[.slice (some ⟨wr.heap.size, 0, none⟩) 1 1] 25)) gm o) := kpt_put (((Kpt.refl (· = gm) wr).alloc _).alloc _) (fun _ => rfl) o
      have hA : At (putObj ((wr.alloc (.cells #[.int .i64 x] 3)).alloc (.cells #[.slice (some ⟨wr.heap.size, 0, none⟩) 1 1] 25)) gm o) wr.heap.size [.int .i64 x] 3 := (At.al (At.made rfl rfl)).putObj (by omega)
      have hBB : At (putObj ((wr.alloc (.cells #[.int .i64 x] 3)).alloc (.cells #[.slice (some ⟨wr.heap.size, 0, none⟩) 1 1] 25)) gm o) (wr.heap.size + 1) [.slice (some ⟨wr.heap.size, 0, none⟩) 1 1] 25 := (At.made (by simp) rfl).putObj (by omega)
      have HN := Lib.hid (hB.step hx hnd hA hBB (Nat.le_refl _) (Nat.le_succ _) (by omega) hkp hm2)
      have i0 : (0 : Int) ≤ (i : Int) := by omega
      have i1 : (i : Int) < (l.length : Int) := by omega
      have i2 : (l.length : Int) ≤ 1000000 := by omega
      clear hB hx hkp hA hBB hm2 hpw hgl cx0 hrd hnd hpm hnp hgg hi hml
      go_wp2
      go_roundg k1
      case measure => omega
      case rel => exact ⟨i + 1, by go_num, Lib.hid ⟨by omega, _, _, _, HN.out⟩⟩
    · obtain rfl : i = l.length := by omega
      have hS : PtS wr gp gm cls' row' val' (ext pb w wr) := by
        refine ⟨hpw, ?_, .inl hpm, ?_, hB.r⟩
        · have := hB.m
          rw [List.drop_length] at this
          simpa using this
        · rintro (hh | ⟨hh, _⟩)
          · exact hnp hh
          · have := HP.out.lt
            omega
      have HS := Lib.hid (And.intro (hB.k.mono (p' := pb) fun k _ e => e ▸ hpm) (And.intro hS (And.intro hB.si hB.ot)))
      clear hB hS hpw hrd hnd hpm hnp hgg hi hik
      go_wp2
      go_ret
      rw [List.take_length] at HS
      exact ⟨rfl, HS.out.1, _, _, _, HS.out.2.1, HS.out.2.2.1, HS.out.2.2.2⟩
end
end Go.Proofs.Ythomnpgpbhpojaa.Pt
