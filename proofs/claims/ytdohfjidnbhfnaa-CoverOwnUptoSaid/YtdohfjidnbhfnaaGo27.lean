/- cover: number. -/
import Derived.Test.YtdohfjidnbhfnaaGo24
import Derived.Test.YtdohfjidnbhfnaaGo26
import Derived.Laws.EntriesVeiled
namespace Go.Proofs.Ytdohfjidnbhfnaa.Cv
open Go Go.RowKit Go.Proofs.Ytdohfjidnbhfnaa.Mem Go.Proofs.Ytdohfjidnbhfnaa.Tj Go.Proofs.Ytdohfjidnbhfnaa.Scc Go.Proofs.Ytdohfjidnbhfnaa.Lw Go.Proofs.YtdohfjidnbhfnaaW.PrintWords Go.Proofs.YtdohfjidnbhfnaaW.PrintLast
attribute [local go_sem ↓] Go.wp_at_zero Go.wp_at_succ
set_option linter.unusedSimpArgs false
set_option linter.unusedVariables false

structure NS (w0 w : World) (bc gc gn ga n : Nat) (nd : List Nd) (W : World) : Prop where
  hbc : At W bc [.pointer (some ⟨gc, 0, none⟩)] 23
  hgc : At W gc [.slice (some ⟨gn, 0, none⟩) n n, .slice (some ⟨ga, 0, none⟩) (n + 1) (n + 1)] 65
  hgn : At W gn (nds nd) 62
  hga : At W ga (ints (List.replicate (n + 1) 0)) 3
  b : Below w0.heap.size w0 W
  kp : Kpt (· = gn) w W
  ln : nd.length = n
section
variable {w0 w W W' : World} {bc gc gn ga n : Nat} {nd : List Nd}
theorem NS.below (h : NS w0 w bc gc gn ga n nd W) (hb : Below W.heap.size W W') : NS w0 w bc gc gn ga n nd W' :=
  ⟨h.hbc.below hb h.hbc.lt, h.hgc.below hb h.hgc.lt, h.hgn.below hb h.hgn.lt, h.hga.below hb h.hga.lt, h.b.trans (hb.mono h.b.size), h.kp.below hb, h.ln⟩
theorem NS.set (h : NS w0 w bc gc gn ga n nd W) (hg : w0.heap.size ≤ gn) {j f : Nat} {v : Value} {x y : Nd} (hx : nd[j]? = some x) (hf : f < 4) (e : (nd4 x).set f v = nd4 y) : NS w0 w bc gc gn ga n (nd.set j y) (W.setCell ⟨gn, j * 4 + f, none⟩ v) :=
  ⟨h.hbc.off (h.hbc.ne h.hgn (by decide)), h.hgc.off (h.hgc.ne h.hgn (by decide)), h.hgn.put (nds_set nd j f v x y hx hf e).symm, h.hga.off (h.hga.ne h.hgn (by decide)), h.b.setCell hg _, h.kp.set (fun _ => rfl) _, by rw [List.length_set]; exact h.ln⟩
end
def zN : Nd := ⟨0, 0, 0, none⟩
theorem mid_set' {α : Type} {x y : α} {i n : Nat} (hi : i < n) : (List.replicate i x ++ List.replicate (n - i) y).set i x = List.replicate (i + 1) x ++ List.replicate (n - (i + 1)) y := by
  obtain ⟨k, hk⟩ : ∃ k, n - i = k + 1 := ⟨n - i - 1, by omega⟩
  rw [hk, show n - (i + 1) = k by omega, List.replicate_succ, List.set_append, if_neg (by simp), List.length_replicate, Nat.sub_self, List.set_cons_zero, List.replicate_succ', List.append_assoc]
  rfl
theorem mid_at' {α : Type} {x y : α} {i n : Nat} (hi : i < n) : (List.replicate i x ++ List.replicate (n - i) y)[i]? = some y := by
  rw [List.getElem?_append_right (by simp), List.length_replicate, Nat.sub_self, List.getElem?_replicate, if_pos (by omega)]

def NumPost (w : World) (gc gn ga n : Nat) (pars : List Int) (e : Ending) (w' : World) : Prop :=
  e = .returned (.tuple #[]) ∧ CovS w' gc gn ga n (asg (fun x => (bl pars (x : Int)).length) (bl pars (-1)) 1 (pars.map mkN)) (asgA (bl pars (-1)) 1 (List.replicate (n + 1) 0)) ∧ Kpt (fun k => k = gn ∨ k = ga) w w'

def tb27_9.T9 : Bool × List (List Nat × List Nat) := (true, [([], []), ([0], [0]), ([1], [1]), ([2], [2]), ([], []), ([4], [4]), ([3, 5], [3, 5]), ([6], [6]), ([7, 0, 1, 2, 3, 4, 5, 6, 7], [7])])
def tb27_9.B9 : List Nat := [0, 1, 3, 7, 0, 16, 63, 127, 255]
theorem tb27_9.tab9 : rtab .any (opsOf Try.f27 9) = tb27_9.T9 := by kernel_rfl
theorem tb27_9.bits9 : waitsOk tb27_9.T9.2 tb27_9.B9 = true := by kernel_rfl
def tb27_10.T10 : Bool × List (List Nat × List Nat) := (true, [([], []), ([0], [0]), ([1], [1]), ([2], [2]), ([3], [3]), ([4], [4]), ([5, 4], [4, 5]), ([4], [4]), ([7, 4], [4, 7]), ([8, 4], [4, 8]), ([6, 9, 4], [4, 6, 9]), ([4, 10], [4, 10])])
def tb27_10.B10 : List Nat := [0, 1, 3, 7, 15, 31, 63, 31, 159, 415, 1023, 2047]
theorem tb27_10.tab10 : rtab .any (opsOf Try.f27 10) = tb27_10.T10 := by kernel_rfl
theorem tb27_10.bits10 : waitsOk tb27_10.T10.2 tb27_10.B10 = true := by kernel_rfl
def tb27_17.T17 : Bool × List (List Nat × List Nat) := (true, [([], []), ([], []), ([1], [1]), ([2], [2]), ([], []), ([], []), ([5], [5]), ([6], [6]), ([4, 7], [4, 7]), ([8], [8]), ([], []), ([10], [10]), ([9, 11], [9, 11]), ([0, 3, 0, 1, 2, 3, 4, 5, 6, 7, 8, 9, 10, 11, 12], [0, 3]), ([13, 12, 12, 0, 1, 2, 3, 4, 5, 6, 7, 8, 9, 10, 11, 12], [12, 13])])
def tb27_17.B17 : List Nat := [0, 0, 2, 6, 0, 0, 32, 96, 240, 496, 0, 1024, 4080, 8191, 16383]
theorem tb27_17.tab17 : rtab .any (opsOf Try.f27 17) = tb27_17.T17 := by kernel_rfl
theorem tb27_17.bits17 : waitsOk tb27_17.T17.2 tb27_17.B17 = true := by kernel_rfl
set_option maxHeartbeats 16000000 in
set_option maxRecDepth 100000 in
theorem number_calls (w0 w : World) (gc gn ga n ca : Nat) (Aa : Option Addr) (arcs : List (Int × Int)) (rk : Nat → Nat) (hC : CovS w gc gn ga n (List.replicate n zN) (List.replicate (n + 1) 0)) (hb : Below w0.heap.size w0 w) (ha : RdA w0 Aa arcs)
    (hg : w0.heap.size ≤ gc ∧ w0.heap.size ≤ gn ∧ w0.heap.size ≤ ga) (hgood : ∀ p ∈ arcs, 0 ≤ p.1 ∧ p.1 < n ∧ 0 ≤ p.2 ∧ p.2 < n) (hrk : Rk n (parsOf n arcs) rk) (hn : n ≤ 1000) (hm : arcs.length ≤ 100000) :
    Calls Try.prog 27 #[.pointer (some ⟨gc, 0, none⟩), .slice Aa arcs.length ca] w fun e w' => NumPost w gc gn ga n (parsOf n arcs) e w' := by
  have c0 := hC.hc.cell 0 rfl
  have l0 := hC.hc.lt
  have q0 := Nat.ne_of_lt l0
  obtain ⟨P, hP⟩ : ∃ P, parsOf n arcs = P := ⟨_, rfl⟩
  rw [hP] at hrk ⊢
  have h0 : Hid (NS w0 w w.heap.size gc gn ga n (List.replicate n zN) (w.alloc (.cells #[.pointer (some ⟨gc, 0, none⟩)] 23))) :=
    Lib.hid ⟨At.made rfl rfl, hC.hc.al, hC.hn.al, hC.ha.al, hb.alloc hb.size _, (Kpt.refl _ _).alloc _, hC.ln⟩
  have HX := Lib.hid (And.intro ha (And.intro hg (And.intro hgood (And.intro hrk hP))))
  obtain ⟨m, hlen⟩ : ∃ m, arcs.length = m := ⟨_, rfl⟩
  rw [hlen] at hm ⊢
  have HM := Lib.hid hlen
  have HSZ0 := Lib.hid hb.size
  clear hC hb ha hg hgood hrk hP hlen
  go_enter Try.func27, Try.ntmps27
  go_wp2
  obtain ⟨bc, hbc⟩ : ∃ bc, w.heap.size = bc := ⟨_, rfl⟩
  rw [hbc] at h0 ⊢
  have HBC := Lib.hid hbc
  clear c0 l0 q0 hbc
  go_loopg [18] n (fun kq v18 w' => ∃ i : Nat, v18 = .int .i64 (i : Int) ∧ Hid (i + kq = n ∧ NS w0 w bc gc gn ga n (List.replicate i (mkN (-1)) ++ List.replicate (n - i) zN) w'))
  case atStart => exact ⟨0, rfl, Lib.hid ⟨by omega, by simpa using h0.out⟩⟩
  case round =>
    clear h0
    obtain ⟨i, rfl, hI⟩ := hrel
    obtain ⟨hik, hN⟩ := hI.out
    clear hI
    have c0 := hN.hbc.cell 0 rfl
    have c1 := hN.hgc.cell 0 rfl
    by_cases hi : i < n
    · obtain ⟨k1, rfl⟩ : ∃ k1, gk = k1 + 1 := ⟨gk - 1, by omega⟩
      have hz := mid_at' (x := mkN (-1)) (y := zN) hi
      have c2 := hN.hgn.cell _ (nds_at _ i _ hz).1
      have f2 := hN.hgn.free (i * 4)
      have i0 : (0 : Int) ≤ (i : Int) := by omega
      have i1 : (i : Int) < (n : Int) := by omega
      have i2 : (n : Int) ≤ 1000 := by omega
      have HN := Lib.hid (And.intro hik (And.intro hN (And.intro hz hi)))
      clear hik hN hz hi
      go_wp2
      go_roundg k1
      case measure => omega
      case rel =>
        refine ⟨i + 1, by go_num, Lib.hid ⟨by have := HN.out.1; omega, ?_⟩⟩
        have := HN.out.2.1.set (f := 0) (v := .int .i64 (-1)) (y := mkN (-1)) HX.out.2.1.2.1 HN.out.2.2.1 (by omega) rfl
        rw [mid_set' HN.out.2.2.2] at this
        exact this
    · obtain rfl : n = i := by omega
      rw [Nat.sub_self, List.replicate_zero, List.append_nil, ← List.map_replicate] at hN
      clear hi hik
      have HN := Lib.hid hN
      clear hN c0 c1
      go_upto_region 6 with (fail)
      refine gen_loopw (fun W => NS w0 w bc gc gn ga n ((List.replicate n (-1)).map mkN) W) HN.out ?_
      clear HN
      rintro w2 hN
      have HN0 := Lib.hid hN
      clear hN
      go_wp2
      go_loopg [31] m (fun kq v31 w' => ∃ j : Nat, v31 = .int .i64 (j : Int) ∧ Hid (∃ ps, j + kq = m ∧ parF (arcs.drop j) ps = P ∧ ps.length = n ∧ NS w0 w bc gc gn ga n (ps.map mkN) w'))
      case atStart => exact ⟨0, rfl, Lib.hid ⟨_, by omega, HX.out.2.2.2.2, by simp, HN0.out⟩⟩
      case round =>
        clear HN0
        obtain ⟨j, rfl, hI⟩ := hrel
        obtain ⟨ps, hjk, hF, hpl, hN⟩ := hI.out
        clear hI
        by_cases hj : j < m
        · obtain ⟨k1, rfl⟩ : ∃ k1, gk = k1 + 1 := ⟨gk - 1, by omega⟩
          have hja : j < arcs.length := by rw [HM.out]; exact hj
          obtain ⟨⟨uz, vz⟩, huv⟩ : ∃ p, arcs[j]? = some p := ⟨_, List.getElem?_eq_getElem hja⟩
          rw [List.drop_eq_getElem_cons hja, show arcs[j] = (uz, vz) by rw [List.getElem?_eq_getElem hja] at huv; exact Option.some.inj huv, parF] at hF
          obtain ⟨g1, g2, g3, g4⟩ := HX.out.2.2.1 _ (List.mem_of_getElem? huv)
          dsimp only at g1 g2 g3 g4
          obtain ⟨u, rfl⟩ := Int.eq_ofNat_of_zero_le g1
          obtain ⟨v, rfl⟩ := Int.eq_ofNat_of_zero_le g3
          obtain ⟨b, rfl, cu, cv⟩ := (HX.out.1.below hN.b) j _ _ huv
          have c0 := hN.hbc.cell 0 rfl
          have c1 := hN.hgc.cell 0 rfl
          have lb := World.block_lt_of_cell? _ _ cu
          dsimp only at lb
          have nb := Nat.ne_of_lt lb
          have j0 : (0 : Int) ≤ (j : Int) := by omega
          have j1 : (j : Int) < (m : Int) := by omega
          have j2 : (m : Int) ≤ 100000 := by omega
          have v0 : (0 : Int) ≤ (v : Int) := by omega
          have v1 : (v : Int) < (n : Int) := by omega
          have v2 : (n : Int) ≤ 1000 := by omega
          have HN := Lib.hid (And.intro hjk (And.intro hF (And.intro hpl (And.intro hN (And.intro g2 g4)))))
          clear hjk hF hpl hN huv g1 g2 g3 g4 hj hja
          go_upto_region 9 with (fail)
          refine gen_loopw (fun W => NS w0 w bc gc gn ga n (ps.map mkN) W ∧ At W wr.heap.size [.int .i64 (u : Int), .int .i64 (v : Int)] 38) ⟨HN.out.2.2.2.1.below ((Below.refl _ _).alloc (Nat.le_refl _) _), At.made rfl rfl⟩ ?_
          obtain ⟨ab, hab⟩ : ∃ ab, wr.heap.size = ab := ⟨_, rfl⟩
          rw [hab]
          clear c0 c1 cu cv lb nb hab
          rintro W ⟨hN, hA⟩
          have c0 := hN.hbc.cell 0 rfl
          have c1 := hN.hgc.cell 0 rfl
          have c2 := hA.cell 0 rfl
          have c3 := hA.cell 1 rfl
          obtain ⟨q, hq⟩ : ∃ q, ps[v]? = some q := ⟨_, List.getElem?_eq_getElem (by have := HN.out.2.2.1; have := HN.out.2.2.2.2.2; omega)⟩
          have hqn : (ps.map mkN)[v]? = some (mkN q) := by rw [List.getElem?_map, hq]; rfl
          have c4 := hN.hgn.cell _ (nds_at _ v _ hqn).1
          have f4 := hN.hgn.free (v * 4)
          have e4 : (mkN q).par = q := rfl
          rw [e4] at c4
          have hgd : ps.getD v 0 = q := by rw [List.getD_eq_getElem?_getD, hq]; rfl
          have HW := Lib.hid (And.intro hN (And.intro hqn (And.intro hgd hA)))
          clear hN hA hq hqn hgd e4
          refine start_ (n := 9) (S := fun w' => w'.cell? ⟨bc, 0, none⟩ = some (.pointer (some ⟨gc, 0, none⟩)) ∧ w'.cell? ⟨gc, 0, none⟩ = some (.slice (some ⟨gn, 0, none⟩) n n) ∧ w'.cell? ⟨ab, 1, none⟩ = some (.int .i64 (v : Int))) (ds := []) (bA 9 0) (by kernel_rfl) rfl rfl ⟨c0, c1, c3⟩ (fun hHeld => ?_)
          refine with_tabW tb27_9.tab9 tb27_9.bits9 (fun HT_ HW_ => ?_)
          refine pure_ (i := 4) (N := some 39) (v := ?_) (a' := ?_) (bA 9 16) rfl rfl (any_of HT_.out (by kernel_rfl)) (fun _ _ _ h => h) (Or.inl ⟨by rfl, ?_⟩) ?_ ?_
          rotate_left; · intro w'; go_simp; with_reducible rfl
          rotate_left; · simp only [Act.put, pA, pB, pC, pD, pE]; rfl
          refine take_ (i := 0) (N := some 35) (v := ?_) (a' := ?_) (bA 9 17) rfl rfl (take_ofW HT_.out HW_.out (by kernel_rfl)) (fun _ _ _ h => h) (Or.inl ⟨by rfl, ?_⟩) hHeld ?_ ?_
          rotate_left
          · rintro w' ⟨s0, s1, s2⟩
            go_simp; with_reducible rfl
          rotate_left; · simp only [Act.put, pA, pB, pC, pD, pE]; rfl
          refine pure_ (i := 1) (N := some 36) (v := ?_) (a' := ?_) (bA 9 19) rfl rfl (any_of HT_.out (by kernel_rfl)) (fun _ _ _ h => h) (Or.inl ⟨by rfl, ?_⟩) ?_ ?_
          rotate_left; · intro w'; go_simp; with_reducible rfl
          rotate_left; · simp only [Act.put, pA, pB, pC, pD, pE]; rfl
          refine pure_ (i := 2) (N := some 37) (v := ?_) (a' := ?_) (bA 9 23) rfl rfl (any_of HT_.out (by kernel_rfl)) (fun _ _ _ h => h) (Or.inl ⟨by rfl, ?_⟩) ?_ ?_
          rotate_left; · intro w'; go_simp; with_reducible rfl
          rotate_left; · simp only [Act.put, pA, pB, pC, pD, pE]; rfl
          refine take_ (i := 3) (N := some 38) (v := ?_) (a' := ?_) (bA 9 31) rfl rfl (take_ofW HT_.out HW_.out (by kernel_rfl)) (fun _ _ _ h => h) (Or.inl ⟨by rfl, ?_⟩) hHeld ?_ ?_
          rotate_left
          · rintro w' ⟨s0, s1, s2⟩
            go_simp; with_reducible rfl
          rotate_left; · simp only [Act.put, pA, pB, pC, pD, pE]; rfl
          refine take_ (i := 5) (N := some 40) (v := ?_) (a' := ?_) (bA 9 63) rfl rfl (take_ofW HT_.out HW_.out (by kernel_rfl)) (fun _ _ _ h => h) (Or.inl ⟨by rfl, ?_⟩) hHeld ?_ ?_
          rotate_left
          · rintro w' ⟨s0, s1, s2⟩
            go_simp; with_reducible rfl
          rotate_left; · simp only [Act.put, pA, pB, pC, pD, pE]; rfl
          refine pure_ (i := 6) (N := some 41) (v := ?_) (a' := ?_) (bA 9 127) rfl rfl (any_of HT_.out (by kernel_rfl)) (fun _ _ _ h => h) (Or.inl ⟨by rfl, ?_⟩) ?_ ?_
          rotate_left; · intro w'; go_simp; with_reducible rfl
          rotate_left; · simp only [Act.put, pA, pB, pC, pD, pE]; rfl
          refine pure_ (i := 7) (N := some 42) (v := ?_) (a' := ?_) (bA 9 255) rfl rfl (any_of HT_.out (by kernel_rfl)) (fun _ _ _ h => h) (Or.inl ⟨by rfl, ?_⟩) ?_ ?_
          rotate_left; · intro w'; go_simp; with_reducible rfl
          rotate_left; · simp only [Act.put, pA, pB, pC, pD, pE]; rfl
          refine pure_ (i := 8) (N := some 7) (v := ?_) (a' := ?_) (bA 9 511) rfl rfl (any_of HT_.out (by kernel_rfl)) (fun _ _ _ h => h) (Or.inl ⟨by rfl, ?_⟩) ?_ ?_
          rotate_left; · intro w'; go_simp; with_reducible rfl
          rotate_left; · simp only [Act.put, pA, pB, pC, pD, pE]; rfl
          refine done_ (done_of HT_.out (by kernel_rfl)) ?_
          clear hHeld HT_ HW_
          go_wp2
          by_cases t1 : q < 0
          · have e1 : decide (q < 0) = true := by simpa using t1
            have T1 := Lib.hid t1
            clear t1
            refine start_ (n := 12) (S := fun w' => w'.cell? ⟨gn, v * 4, none⟩ = some (.int .i64 q) ∧ w'.cell? ⟨ab, 0, none⟩ = some (.int .i64 (u : Int))) (ds := []) (bA 12 0) (by kernel_rfl) rfl rfl ⟨c4, c2⟩ (fun hHeld => ?_)
            refine with_tabW tb27_10.tab10 tb27_10.bits10 (fun HT_ HW_ => ?_)
            refine pure_ (i := 0) (N := some 43) (v := ?_) (a' := ?_) (bA 12 1) rfl rfl (any_of HT_.out (by kernel_rfl)) (fun _ _ _ h => h) (Or.inl ⟨by rfl, ?_⟩) ?_ ?_
            rotate_left; · intro w'; go_simp; with_reducible rfl
            rotate_left; · simp only [Act.put, pA, pB, pC, pD, pE]; rfl
            refine pure_ (i := 1) (N := some 44) (v := ?_) (a' := ?_) (bA 12 3) rfl rfl (any_of HT_.out (by kernel_rfl)) (fun _ _ _ h => h) (Or.inl ⟨by rfl, ?_⟩) ?_ ?_
            rotate_left; · intro w'; go_simp; with_reducible rfl
            rotate_left; · simp only [Act.put, pA, pB, pC, pD, pE]; rfl
            refine take_ (i := 2) (N := some 45) (v := ?_) (a' := ?_) (bA 12 7) rfl rfl (take_ofW HT_.out HW_.out (by kernel_rfl)) (fun _ _ _ h => h) (Or.inl ⟨by rfl, ?_⟩) hHeld ?_ ?_
            rotate_left
            · rintro w' ⟨s0, s1⟩
              go_simp; with_reducible rfl
            rotate_left; · simp only [Act.put, pA, pB, pC, pD, pE]; rfl
            refine pure_ (i := 3) (N := some 46) (v := ?_) (a' := ?_) (bA 12 15) rfl rfl (any_of HT_.out (by kernel_rfl)) (fun _ _ _ h => h) (Or.inl ⟨by rfl, ?_⟩) ?_ ?_
            rotate_left; · intro w'; go_simp; with_reducible rfl
            rotate_left; · simp only [Act.put, pA, pB, pC, pD, pE]; rfl
            refine pure_ (i := 4) (N := some 47) (v := ?_) (a' := ?_) (bA 12 31) rfl rfl (any_of HT_.out (by kernel_rfl)) (fun _ _ _ h => h) (Or.inl ⟨by rfl, ?_⟩) ?_ ?_
            rotate_left; · intro w'; go_simp; with_reducible rfl
            rotate_left; · simp only [Act.put, pA, pB, pC, pD, pE]; rfl
            refine pure_ (i := 5) (N := some 48) (v := undef) (a' := ?_) (bA 12 63) rfl rfl (any_of HT_.out (by kernel_rfl)) (fun _ _ _ h => h) (Or.inr ⟨by rfl, rfl⟩) ?_ ?_
            rotate_left; · simp only [Act.put, pA, pB, pC, pD, pE]; rfl
            refine pure_ (i := 6) (N := some 49) (v := undef) (a' := ?_) (bA 12 127) rfl rfl (any_of HT_.out (by kernel_rfl)) (fun _ _ _ h => h) (Or.inr ⟨by rfl, rfl⟩) ?_ ?_
            rotate_left; · simp only [Act.put, pA, pB, pC, pD, pE]; rfl
            refine pure_ (i := 7) (N := some 50) (v := undef) (a' := ?_) (bA 12 255) rfl rfl (any_of HT_.out (by kernel_rfl)) (fun _ _ _ h => h) (Or.inr ⟨by rfl, rfl⟩) ?_ ?_
            rotate_left; · simp only [Act.put, pA, pB, pC, pD, pE]; rfl
            refine pure_ (i := 8) (N := some 51) (v := undef) (a' := ?_) (bA 12 511) rfl rfl (any_of HT_.out (by kernel_rfl)) (fun _ _ _ h => h) (Or.inr ⟨by rfl, rfl⟩) ?_ ?_
            rotate_left; · simp only [Act.put, pA, pB, pC, pD, pE]; rfl
            refine pure_ (i := 9) (N := some 52) (v := undef) (a' := ?_) (bA 12 1023) rfl rfl (any_of HT_.out (by kernel_rfl)) (fun _ _ _ h => h) (Or.inr ⟨by rfl, rfl⟩) ?_ ?_
            rotate_left; · simp only [Act.put, pA, pB, pC, pD, pE]; rfl
            refine pure_ (i := 10) (N := some 53) (v := undef) (a' := ?_) (bA 12 2047) rfl rfl (any_of HT_.out (by kernel_rfl)) (fun _ _ _ h => h) (Or.inr ⟨by rfl, rfl⟩) ?_ ?_
            rotate_left; · simp only [Act.put, pA, pB, pC, pD, pE]; rfl
            refine pure_ (i := 11) (N := some 54) (v := ?_) (a' := ?_) (bA 12 4095) rfl rfl (any_of HT_.out (by kernel_rfl)) (fun _ _ _ h => h) (Or.inl ⟨by rfl, ?_⟩) ?_ ?_
            rotate_left; · intro w'; go_simp; with_reducible rfl
            rotate_left; · simp only [Act.put, pA, pB, pC, pD, pE]; rfl
            refine done_ (done_of HT_.out (by kernel_rfl)) ?_
            clear hHeld HT_ HW_
            go_wp2
            go_roundg k1
            case measure => omega
            case rel =>
              refine ⟨j + 1, by go_num, Lib.hid ⟨ps.set v (u : Int), by have := HN.out.1; omega, ?_, by rw [List.length_set]; exact HN.out.2.2.1, ?_⟩⟩
              · have hF := HN.out.2.1
                unfold parStep at hF
                rw [Int.toNat_natCast, HW.out.2.2.1, if_pos (.inl T1.out)] at hF
                exact hF
              · have hNd : NS w0 w bc gc gn ga n (ps.map mkN) W.drew.drew := HW.out.1.below ((Below.refl _ _).drew.drew)
                have := hNd.set (f := 0) (v := .int .i64 (u : Int)) (y := mkN (u : Int)) HX.out.2.1.2.1 HW.out.2.1 (by omega) rfl
                rw [map_set_mk] at this
                exact this
          · have e1 : decide (q < 0) = false := by simpa using t1
            by_cases t2 : (u : Int) < q
            · have e2 : decide ((u : Int) < q) = true := by simpa using t2
              have T1 := Lib.hid t2
              clear t1 t2
              refine start_ (n := 12) (S := fun w' => w'.cell? ⟨gn, v * 4, none⟩ = some (.int .i64 q) ∧ w'.cell? ⟨ab, 0, none⟩ = some (.int .i64 (u : Int))) (ds := []) (bA 12 0) (by kernel_rfl) rfl rfl ⟨c4, c2⟩ (fun hHeld => ?_)
              refine with_tabW tb27_10.tab10 tb27_10.bits10 (fun HT_ HW_ => ?_)
              refine pure_ (i := 0) (N := some 43) (v := ?_) (a' := ?_) (bA 12 1) rfl rfl (any_of HT_.out (by kernel_rfl)) (fun _ _ _ h => h) (Or.inl ⟨by rfl, ?_⟩) ?_ ?_
              rotate_left; · intro w'; go_simp; with_reducible rfl
              rotate_left; · simp only [Act.put, pA, pB, pC, pD, pE]; rfl
              refine pure_ (i := 1) (N := some 44) (v := ?_) (a' := ?_) (bA 12 3) rfl rfl (any_of HT_.out (by kernel_rfl)) (fun _ _ _ h => h) (Or.inl ⟨by rfl, ?_⟩) ?_ ?_
              rotate_left; · intro w'; go_simp; with_reducible rfl
              rotate_left; · simp only [Act.put, pA, pB, pC, pD, pE]; rfl
              refine take_ (i := 2) (N := some 45) (v := ?_) (a' := ?_) (bA 12 7) rfl rfl (take_ofW HT_.out HW_.out (by kernel_rfl)) (fun _ _ _ h => h) (Or.inl ⟨by rfl, ?_⟩) hHeld ?_ ?_
              rotate_left
              · rintro w' ⟨s0, s1⟩
                go_simp; with_reducible rfl
              rotate_left; · simp only [Act.put, pA, pB, pC, pD, pE]; rfl
              refine pure_ (i := 3) (N := some 46) (v := ?_) (a' := ?_) (bA 12 15) rfl rfl (any_of HT_.out (by kernel_rfl)) (fun _ _ _ h => h) (Or.inl ⟨by rfl, ?_⟩) ?_ ?_
              rotate_left; · intro w'; go_simp; with_reducible rfl
              rotate_left; · simp only [Act.put, pA, pB, pC, pD, pE]; rfl
              refine pure_ (i := 4) (N := some 47) (v := ?_) (a' := ?_) (bA 12 31) rfl rfl (any_of HT_.out (by kernel_rfl)) (fun _ _ _ h => h) (Or.inl ⟨by rfl, ?_⟩) ?_ ?_
              rotate_left; · intro w'; go_simp; with_reducible rfl
              rotate_left; · simp only [Act.put, pA, pB, pC, pD, pE]; rfl
              refine pure_ (i := 5) (N := some 48) (v := ?_) (a' := ?_) (bA 12 63) rfl rfl (any_of HT_.out (by kernel_rfl)) (fun _ _ _ h => h) (Or.inl ⟨by rfl, ?_⟩) ?_ ?_
              rotate_left; · intro w'; go_simp; with_reducible rfl
              rotate_left; · simp only [Act.put, pA, pB, pC, pD, pE]; rfl
              refine pure_ (i := 7) (N := some 50) (v := ?_) (a' := ?_) (bA 12 191) rfl rfl (any_of HT_.out (by kernel_rfl)) (fun _ _ _ h => h) (Or.inl ⟨by rfl, ?_⟩) ?_ ?_
              rotate_left; · intro w'; go_simp; with_reducible rfl
              rotate_left; · simp only [Act.put, pA, pB, pC, pD, pE]; rfl
              refine pure_ (i := 8) (N := some 51) (v := ?_) (a' := ?_) (bA 12 447) rfl rfl (any_of HT_.out (by kernel_rfl)) (fun _ _ _ h => h) (Or.inl ⟨by rfl, ?_⟩) ?_ ?_
              rotate_left; · intro w'; go_simp; with_reducible rfl
              rotate_left; · simp only [Act.put, pA, pB, pC, pD, pE]; rfl
              refine take_ (i := 6) (N := some 49) (v := ?_) (a' := ?_) (bA 12 511) rfl rfl (take_ofW HT_.out HW_.out (by kernel_rfl)) (fun _ _ _ h => h) (Or.inl ⟨by rfl, ?_⟩) hHeld ?_ ?_
              rotate_left
              · rintro w' ⟨s0, s1⟩
                go_simp; with_reducible rfl
              rotate_left; · simp only [Act.put, pA, pB, pC, pD, pE]; rfl
              refine take_ (i := 9) (N := some 52) (v := ?_) (a' := ?_) (bA 12 1023) rfl rfl (take_ofW HT_.out HW_.out (by kernel_rfl)) (fun _ _ _ h => h) (Or.inl ⟨by rfl, ?_⟩) hHeld ?_ ?_
              rotate_left
              · rintro w' ⟨s0, s1⟩
                go_simp; with_reducible rfl
              rotate_left; · simp only [Act.put, pA, pB, pC, pD, pE]; rfl
              refine pure_ (i := 10) (N := some 53) (v := ?_) (a' := ?_) (bA 12 2047) rfl rfl (any_of HT_.out (by kernel_rfl)) (fun _ _ _ h => h) (Or.inl ⟨by rfl, ?_⟩) ?_ ?_
              rotate_left; · intro w'; go_simp; with_reducible rfl
              rotate_left; · simp only [Act.put, pA, pB, pC, pD, pE]; rfl
              refine pure_ (i := 11) (N := some 54) (v := ?_) (a' := ?_) (bA 12 4095) rfl rfl (any_of HT_.out (by kernel_rfl)) (fun _ _ _ h => h) (Or.inl ⟨by rfl, ?_⟩) ?_ ?_
              rotate_left; · intro w'; go_simp; with_reducible rfl
              rotate_left; · simp only [Act.put, pA, pB, pC, pD, pE]; rfl
              refine done_ (done_of HT_.out (by kernel_rfl)) ?_
              clear hHeld HT_ HW_
              go_wp2
              go_roundg k1
              case measure => omega
              case rel =>
                refine ⟨j + 1, by go_num, Lib.hid ⟨ps.set v (u : Int), by have := HN.out.1; omega, ?_, by rw [List.length_set]; exact HN.out.2.2.1, ?_⟩⟩
                · have hF := HN.out.2.1
                  unfold parStep at hF
                  rw [Int.toNat_natCast, HW.out.2.2.1, if_pos (.inr T1.out)] at hF
                  exact hF
                · have hNd : NS w0 w bc gc gn ga n (ps.map mkN) W.drew.drew := HW.out.1.below ((Below.refl _ _).drew.drew)
                  have := hNd.set (f := 0) (v := .int .i64 (u : Int)) (y := mkN (u : Int)) HX.out.2.1.2.1 HW.out.2.1 (by omega) rfl
                  rw [map_set_mk] at this
                  exact this
            · have e2 : decide ((u : Int) < q) = false := by simpa using t2
              have T1 := Lib.hid (And.intro t1 t2)
              clear t1 t2
              refine start_ (n := 12) (S := fun w' => w'.cell? ⟨gn, v * 4, none⟩ = some (.int .i64 q) ∧ w'.cell? ⟨ab, 0, none⟩ = some (.int .i64 (u : Int))) (ds := []) (bA 12 0) (by kernel_rfl) rfl rfl ⟨c4, c2⟩ (fun hHeld => ?_)
              refine with_tabW tb27_10.tab10 tb27_10.bits10 (fun HT_ HW_ => ?_)
              refine pure_ (i := 0) (N := some 43) (v := ?_) (a' := ?_) (bA 12 1) rfl rfl (any_of HT_.out (by kernel_rfl)) (fun _ _ _ h => h) (Or.inl ⟨by rfl, ?_⟩) ?_ ?_
              rotate_left; · intro w'; go_simp; with_reducible rfl
              rotate_left; · simp only [Act.put, pA, pB, pC, pD, pE]; rfl
              refine pure_ (i := 1) (N := some 44) (v := ?_) (a' := ?_) (bA 12 3) rfl rfl (any_of HT_.out (by kernel_rfl)) (fun _ _ _ h => h) (Or.inl ⟨by rfl, ?_⟩) ?_ ?_
              rotate_left; · intro w'; go_simp; with_reducible rfl
              rotate_left; · simp only [Act.put, pA, pB, pC, pD, pE]; rfl
              refine take_ (i := 2) (N := some 45) (v := ?_) (a' := ?_) (bA 12 7) rfl rfl (take_ofW HT_.out HW_.out (by kernel_rfl)) (fun _ _ _ h => h) (Or.inl ⟨by rfl, ?_⟩) hHeld ?_ ?_
              rotate_left
              · rintro w' ⟨s0, s1⟩
                go_simp; with_reducible rfl
              rotate_left; · simp only [Act.put, pA, pB, pC, pD, pE]; rfl
              refine pure_ (i := 3) (N := some 46) (v := ?_) (a' := ?_) (bA 12 15) rfl rfl (any_of HT_.out (by kernel_rfl)) (fun _ _ _ h => h) (Or.inl ⟨by rfl, ?_⟩) ?_ ?_
              rotate_left; · intro w'; go_simp; with_reducible rfl
              rotate_left; · simp only [Act.put, pA, pB, pC, pD, pE]; rfl
              refine pure_ (i := 4) (N := some 47) (v := ?_) (a' := ?_) (bA 12 31) rfl rfl (any_of HT_.out (by kernel_rfl)) (fun _ _ _ h => h) (Or.inl ⟨by rfl, ?_⟩) ?_ ?_
              rotate_left; · intro w'; go_simp; with_reducible rfl
              rotate_left; · simp only [Act.put, pA, pB, pC, pD, pE]; rfl
              refine pure_ (i := 5) (N := some 48) (v := ?_) (a' := ?_) (bA 12 63) rfl rfl (any_of HT_.out (by kernel_rfl)) (fun _ _ _ h => h) (Or.inl ⟨by rfl, ?_⟩) ?_ ?_
              rotate_left; · intro w'; go_simp; with_reducible rfl
              rotate_left; · simp only [Act.put, pA, pB, pC, pD, pE]; rfl
              refine pure_ (i := 7) (N := some 50) (v := ?_) (a' := ?_) (bA 12 191) rfl rfl (any_of HT_.out (by kernel_rfl)) (fun _ _ _ h => h) (Or.inl ⟨by rfl, ?_⟩) ?_ ?_
              rotate_left; · intro w'; go_simp; with_reducible rfl
              rotate_left; · simp only [Act.put, pA, pB, pC, pD, pE]; rfl
              refine pure_ (i := 8) (N := some 51) (v := ?_) (a' := ?_) (bA 12 447) rfl rfl (any_of HT_.out (by kernel_rfl)) (fun _ _ _ h => h) (Or.inl ⟨by rfl, ?_⟩) ?_ ?_
              rotate_left; · intro w'; go_simp; with_reducible rfl
              rotate_left; · simp only [Act.put, pA, pB, pC, pD, pE]; rfl
              refine take_ (i := 6) (N := some 49) (v := ?_) (a' := ?_) (bA 12 511) rfl rfl (take_ofW HT_.out HW_.out (by kernel_rfl)) (fun _ _ _ h => h) (Or.inl ⟨by rfl, ?_⟩) hHeld ?_ ?_
              rotate_left
              · rintro w' ⟨s0, s1⟩
                go_simp; with_reducible rfl
              rotate_left; · simp only [Act.put, pA, pB, pC, pD, pE]; rfl
              refine take_ (i := 9) (N := some 52) (v := ?_) (a' := ?_) (bA 12 1023) rfl rfl (take_ofW HT_.out HW_.out (by kernel_rfl)) (fun _ _ _ h => h) (Or.inl ⟨by rfl, ?_⟩) hHeld ?_ ?_
              rotate_left
              · rintro w' ⟨s0, s1⟩
                go_simp; with_reducible rfl
              rotate_left; · simp only [Act.put, pA, pB, pC, pD, pE]; rfl
              refine pure_ (i := 10) (N := some 53) (v := ?_) (a' := ?_) (bA 12 2047) rfl rfl (any_of HT_.out (by kernel_rfl)) (fun _ _ _ h => h) (Or.inl ⟨by rfl, ?_⟩) ?_ ?_
              rotate_left; · intro w'; go_simp; with_reducible rfl
              rotate_left; · simp only [Act.put, pA, pB, pC, pD, pE]; rfl
              refine pure_ (i := 11) (N := some 54) (v := ?_) (a' := ?_) (bA 12 4095) rfl rfl (any_of HT_.out (by kernel_rfl)) (fun _ _ _ h => h) (Or.inl ⟨by rfl, ?_⟩) ?_ ?_
              rotate_left; · intro w'; go_simp; with_reducible rfl
              rotate_left; · simp only [Act.put, pA, pB, pC, pD, pE]; rfl
              refine done_ (done_of HT_.out (by kernel_rfl)) ?_
              clear hHeld HT_ HW_
              go_wp2
              go_roundg k1
              case measure => omega
              case rel =>
                refine ⟨j + 1, by go_num, Lib.hid ⟨ps, by have := HN.out.1; omega, ?_, HN.out.2.2.1, ?_⟩⟩
                · have hF := HN.out.2.1
                  unfold parStep at hF
                  rw [Int.toNat_natCast, HW.out.2.2.1, if_neg (by have := T1.out; omega)] at hF
                  exact hF
                · exact HW.out.1.below ((Below.refl _ _).drew.drew)
        · rw [List.drop_of_length_le (by have := HM.out; omega), parF] at hF
          subst hF
          have HN := Lib.hid (And.intro hpl hN)
          obtain rfl : m = j := by omega
          clear hpl hN hj hjk
          go_upto_region 13 with (fail)
          refine gen_loopw (fun W => NS w0 w bc gc gn ga n (ps.map mkN) W) HN.out.2 ?_
          have HPL := Lib.hid HN.out.1
          clear HN
          rintro w3 hN
          have c0 := hN.hbc.cell 0 rfl
          have c1 := hN.hgc.cell 0 rfl
          obtain ⟨m1, hm1⟩ : ∃ m1, n + 1 = m1 := ⟨_, rfl⟩
          have e1 : (n : Int) + 1 = (m1 : Int) := by omega
          have i2 : (n : Int) ≤ 1000 := by omega
          have hmk := fun wx => run_make_row' (P := Try.prog) 95 24 (.slice none 0 0) 24 Try.underlying95 info_ints rfl .i64 .i64 m1 (by omega) (by omega) wx
          have HN := Lib.hid hN
          have HM1 := Lib.hid hm1
          clear hN hm1
          go_upto_region 14 with (fail)
          refine gen_loopw (fun W => NS w0 w bc gc gn ga n (ps.map mkN) W ∧ At W (w3.heap.size + 1) [.slice (some ⟨w3.heap.size, 0, none⟩) m1 m1] 95 ∧ Rws W (w3.heap.size + 2) w3.heap.size m1 (List.replicate m1 (.slice none 0 0)) (kidsU ps n 0) ∧ w3.heap.size + 2 ≤ W.heap.size) ?_ ?_
          · refine ⟨HN.out.below (((Below.refl _ _).alloc (Nat.le_refl _) _).alloc (by simp) _), At.made (by simp) rfl, ?_, by simp⟩
            rw [kidsU_zero, HM1.out]
            exact Rws.start (At.made rfl (made_rows m1)).al
          obtain ⟨bo, hbo⟩ : ∃ bo, w3.heap.size = bo := ⟨_, rfl⟩
          have hwb : ga < bo + 2 ∧ w.heap.size ≤ bo := by have := HN.out.hga.lt; have := HN.out.kp.size; omega
          rw [hbo]
          obtain ⟨bk, hbk⟩ : ∃ bk, bo + 1 = bk := ⟨_, rfl⟩
          obtain ⟨base, hbase⟩ : ∃ base, bo + 2 = base := ⟨_, rfl⟩
          rw [hbk, hbase]
          rw [hbase] at hwb
          have HBO := Lib.hid (And.intro hbo (And.intro hbk (And.intro hbase hwb)))
          clear hbo hbk hbase hwb c0 c1 hmk HN
          rintro w4 ⟨hN, hbkA, hR, hsz⟩
          have c0 := hN.hbc.cell 0 rfl
          have c1 := hN.hgc.cell 0 rfl
          have HS4 := Lib.hid (And.intro hN (And.intro hbkA (And.intro hR hsz)))
          clear hN hbkA hR hsz e1
          go_wp2
          clear c0 c1
          go_loopg [72] n (fun kq v72 w' => ∃ i : Nat, v72 = .int .i64 (i : Int) ∧ Hid (∃ vals, i + kq = n ∧ NS w0 w bc gc gn ga n (ps.map mkN) w' ∧ At w' bk [.slice (some ⟨bo, 0, none⟩) m1 m1] 95 ∧ Rws w' base bo m1 vals (kidsU ps n i) ∧ base ≤ w'.heap.size))
          case atStart => exact ⟨0, rfl, Lib.hid ⟨_, by omega, HS4.out⟩⟩
          case round =>
            clear HS4
            obtain ⟨i, rfl, hI⟩ := hrel
            obtain ⟨vals, hik, hN, hbkA, hR, hsz⟩ := hI.out
            clear hI
            by_cases hi : i < n
            · obtain ⟨k1, rfl⟩ : ∃ k1, gk = k1 + 1 := ⟨gk - 1, by omega⟩
              obtain ⟨pz, hpz⟩ : ∃ pz, ps[i]? = some pz := ⟨_, List.getElem?_eq_getElem (by have := HPL.out; omega)⟩
              have hgd : ps.getD i 0 = pz := by rw [List.getD_eq_getElem?_getD, hpz]; rfl
              have hpv : Val n pz := by
                rcases HX.out.2.2.2.1.par i hi with h | ⟨p, h1, h2, _⟩
                · exact .inl (by rw [← hgd]; exact h)
                · exact .inr ⟨p, h1, by rw [← hgd]; exact h2⟩
              obtain ⟨q, hq, hqm⟩ : ∃ q : Nat, pz = (q : Int) - 1 ∧ q < m1 := by
                have := HM1.out
                rcases hpv with h | ⟨p, h1, h2⟩
                · exact ⟨0, by omega, by omega⟩
                · exact ⟨p + 1, by omega, by omega⟩
              have hqn : (ps.map mkN)[i]? = some (mkN pz) := by rw [List.getElem?_map, hpz]; rfl
              obtain ⟨a1, a2, a3, a4⟩ := nds_at _ i _ hqn
              have c1 := hN.hgn.cell _ a1
              have c2 := hN.hgn.cell _ a2
              have c3 := hN.hgn.cell _ a3
              have c4 := hN.hgn.cell _ a4
              have e0 : (mkN pz).par = pz := rfl
              have e1 : (mkN pz).post = 0 := rfl
              have e2 : (mkN pz).low = 0 := rfl
              have e3 : labV (mkN pz).lab = .pointer none := rfl
              rw [e0] at c1
              rw [e1] at c2
              rw [e2] at c3
              rw [e3] at c4
              have lb := hN.hgn.lt
              have nb := Nat.ne_of_lt lb
              have i0 : (0 : Int) ≤ (i : Int) := by omega
              have i1 : (i : Int) < (n : Int) := by omega
              have HW := Lib.hid (And.intro hik (And.intro hN (And.intro hbkA (And.intro hR (And.intro hsz (And.intro hgd (And.intro hq hqm)))))))
              clear hik hN hbkA hR hsz hgd hpv hpz hqn hq a1 a2 a3 a4 e0 e1 e2 e3 hi
              go_upto_region 17 with (fail)
              refine gen_loopw (fun W => NS w0 w bc gc gn ga n (ps.map mkN) W ∧ At W bk [.slice (some ⟨bo, 0, none⟩) m1 m1] 95 ∧ Rws W base bo m1 vals (kidsU ps n i) ∧ base ≤ W.heap.size ∧ At W wr.heap.size [.int .i64 pz, .int .i64 0, .int .i64 0, .pointer none] 62 ∧ wr.heap.size < W.heap.size) ?_ ?_
              · obtain ⟨_, hN, hbkA, hR, hsz, _⟩ := HW.out
                have hba : Below wr.heap.size wr (wr.alloc (.cells #[.int .i64 pz, .int .i64 0, .int .i64 0, .pointer none] 62)) := (Below.refl _ _).alloc (Nat.le_refl _) _
                exact ⟨hN.below hba, hbkA.al, hR.below hba, by simp; omega, At.made rfl rfl, by simp⟩
              have hxb := HW.out.2.2.2.2.1
              obtain ⟨xb, hx⟩ : ∃ xb, wr.heap.size = xb := ⟨_, rfl⟩
              rw [hx] at hxb ⊢
              clear c1 c2 c3 c4 lb nb hx
              rintro W ⟨hN, hbkA, hR, hsz, hxA, hxl⟩
              have hq := HW.out.2.2.2.2.2.2.1
              have hqm := HW.out.2.2.2.2.2.2.2
              obtain ⟨r, hr⟩ : ∃ r, (kidsU ps n i)[q]? = some r := ⟨_, List.getElem?_eq_getElem (by rw [hR.lo]; exact hqm)⟩
              obtain ⟨vl, hvl⟩ : ∃ vl, vals[q]? = some vl := ⟨_, List.getElem?_eq_getElem (by rw [hR.lv]; exact hqm)⟩
              have hrow := hR.own q vl r hvl hr
              obtain ⟨A2, c2, rfl⟩ := Lw.own_slice hrow
              have hrl := kidsU_short hr
              have d1 := hbkA.cell 0 rfl
              have d2 := hxA.cell 0 rfl
              have d3 := hR.hat.cell q hvl
              have fd := hR.hat.free q
              have i0' : (0 : Int) ≤ (q : Int) := by omega
              have i1' : (q : Int) < (m1 : Int) := by omega
              have i2' : (m1 : Int) ≤ 1001 := by have := HM1.out; omega
              have e3 : wrap64 (pz + 1) = (q : Int) := by rw [hq]; unfold wrap64; omega
              obtain ⟨i0, hi0, hz0, hz1, hz2⟩ := info_parts Scc.info_int
              have HK := Lib.hid (And.intro hbkA (And.intro hxA hR))
              have HVL := Lib.hid hvl
              have HRR := Lib.hid hr
              have HRW := Lib.hid hrow
              have HSZ := Lib.hid hsz
              have HNW := Lib.hid (And.intro hN (And.intro hxl (And.intro hxb (And.intro hrl hqm))))
              have E3 := Lib.hid e3
              clear hN hbkA hR hsz hxA hxl hxb hq hqm hr hvl hrow e3
              have hrl' : r.length ≤ 1000 := by omega
              have e3 := E3.out
              refine start_ (n := 15) (S := fun w' => w'.cell? ⟨bk, 0, none⟩ = some (.slice (some ⟨bo, 0, none⟩) m1 m1) ∧ w'.cell? ⟨xb, 0, none⟩ = some (.int .i64 pz) ∧ w'.cell? ⟨bo, q, none⟩ = some (.slice A2 r.length c2)) (ds := [14]) (bA 15 0) (by kernel_rfl) rfl rfl ⟨d1, d2, d3⟩ (fun hHeld => ?_)
              refine with_tabW tb27_17.tab17 tb27_17.bits17 (fun HT_ HW_ => ?_)
              refine pure_ (i := 1) (N := some 78) (v := ?_) (a' := ?_) (bA 15 2) rfl rfl (any_of HT_.out (by kernel_rfl)) (fun _ _ _ h => h) (Or.inl ⟨by rfl, ?_⟩) ?_ ?_
              rotate_left; · intro w'; go_simp; with_reducible rfl
              rotate_left; · simp only [Act.put, pA, pB, pC, pD, pE]; rfl
              refine pure_ (i := 5) (N := some 82) (v := ?_) (a' := ?_) (bA 15 34) rfl rfl (any_of HT_.out (by kernel_rfl)) (fun _ _ _ h => h) (Or.inl ⟨by rfl, ?_⟩) ?_ ?_
              rotate_left; · intro w'; go_simp; with_reducible rfl
              rotate_left; · simp only [Act.put, pA, pB, pC, pD, pE]; rfl
              refine pure_ (i := 10) (N := some 87) (v := ?_) (a' := ?_) (bA 15 1058) rfl rfl (any_of HT_.out (by kernel_rfl)) (fun _ _ _ h => h) (Or.inl ⟨by rfl, ?_⟩) ?_ ?_
              rotate_left; · intro w'; go_simp; with_reducible rfl
              rotate_left; · simp only [Act.put, pA, pB, pC, pD, pE]; rfl
              refine take_ (i := 0) (N := some 77) (v := ?_) (a' := ?_) (bA 15 1059) rfl rfl (take_ofW HT_.out HW_.out (by kernel_rfl)) (fun _ _ _ h => h) (Or.inl ⟨by rfl, ?_⟩) hHeld ?_ ?_
              rotate_left
              · rintro w' ⟨s0, s1, s2⟩
                go_simp; with_reducible rfl
              rotate_left; · simp only [Act.put, pA, pB, pC, pD, pE]; rfl
              refine take_ (i := 2) (N := some 79) (v := ?_) (a' := ?_) (bA 15 1063) rfl rfl (take_ofW HT_.out HW_.out (by kernel_rfl)) (fun _ _ _ h => h) (Or.inl ⟨by rfl, ?_⟩) hHeld ?_ ?_
              rotate_left
              · rintro w' ⟨s0, s1, s2⟩
                go_simp; with_reducible rfl
              rotate_left; · simp only [Act.put, pA, pB, pC, pD, pE]; rfl
              refine pure_ (i := 3) (N := some 80) (v := ?_) (a' := ?_) (bA 15 1071) rfl rfl (any_of HT_.out (by kernel_rfl)) (fun _ _ _ h => h) (Or.inl ⟨by rfl, ?_⟩) ?_ ?_
              rotate_left; · intro w'; go_simp; with_reducible rfl
              rotate_left; · simp only [Act.put, pA, pB, pC, pD, pE]; rfl
              refine take_ (i := 4) (N := some 81) (v := ?_) (a' := ?_) (bA 15 1087) rfl rfl (take_ofW HT_.out HW_.out (by kernel_rfl)) (fun _ _ _ h => h) (Or.inl ⟨by rfl, ?_⟩) hHeld ?_ ?_
              rotate_left
              · rintro w' ⟨s0, s1, s2⟩
                go_simp; with_reducible rfl
              rotate_left; · simp only [Act.put, pA, pB, pC, pD, pE]; rfl
              refine take_ (i := 6) (N := some 83) (v := ?_) (a' := ?_) (bA 15 1151) rfl rfl (take_ofW HT_.out HW_.out (by kernel_rfl)) (fun _ _ _ h => h) (Or.inl ⟨by rfl, ?_⟩) hHeld ?_ ?_
              rotate_left
              · rintro w' ⟨s0, s1, s2⟩
                go_simp; with_reducible rfl
              rotate_left; · simp only [Act.put, pA, pB, pC, pD, pE]; rfl
              refine pure_ (i := 7) (N := some 84) (v := ?_) (a' := ?_) (bA 15 1279) rfl rfl (any_of HT_.out (by kernel_rfl)) (fun _ _ _ h => h) (Or.inl ⟨by rfl, ?_⟩) ?_ ?_
              rotate_left; · intro w'; go_simp; with_reducible rfl
              rotate_left; · simp only [Act.put, pA, pB, pC, pD, pE]; rfl
              refine pure_ (i := 8) (N := some 85) (v := ?_) (a' := ?_) (bA 15 1535) rfl rfl (any_of HT_.out (by kernel_rfl)) (fun _ _ _ h => h) (Or.inl ⟨by rfl, ?_⟩) ?_ ?_
              rotate_left; · intro w'; go_simp; with_reducible rfl
              rotate_left; · simp only [Act.put, pA, pB, pC, pD, pE]; rfl
              refine take_ (i := 9) (N := some 86) (v := ?_) (a' := ?_) (bA 15 2047) rfl rfl (take_ofW HT_.out HW_.out (by kernel_rfl)) (fun _ _ _ h => h) (Or.inl ⟨by rfl, ?_⟩) hHeld ?_ ?_
              rotate_left
              · rintro w' ⟨s0, s1, s2⟩
                go_simp; with_reducible rfl
              rotate_left; · simp only [Act.put, pA, pB, pC, pD, pE]; rfl
              refine one_ (i := 11) (N := some 88) (bA 15 4095) rfl rfl (one_of HT_.out (by kernel_rfl)) (by decide) (fun K hK => ?_)
              refine value_ (w1 := ?_) (v := ?_) (by rfl) rfl ?_ ?_
              rotate_left 2
              · go_simp
                constructor
                · rfl
                · rfl
              refine hK.out _ _ ⟨(HK.out.1.al.drew.cell 0 rfl), (HK.out.2.1.al.drew.cell 0 rfl), (HK.out.2.2.hat.al.drew.cell q HVL.out)⟩ (fun hHeld => ?_)
              clear hK K
              refine norm_ (a' := ?_) ?_ ?_
              rotate_left
              · show Act.put _ (some 88) _ = _
                simp only [Act.put, pA, pB, pC, pD, pE]; rfl
              refine one_ (i := 12) (N := some 89) (bA 15 8191) rfl rfl (one_of HT_.out (by kernel_rfl)) (by decide) (fun K hK => ?_)
              refine step_append_lies _ (by rfl) (.tmp 86) (.tmp 88) 24 (by rfl) base 3 i0 (.int .i64 0) 1 8 Try.underlying24 hi0 hz0 hz1 hz2 rfl (by omega) _ r.length (nats r) (by rfl) ((HRW.out.alloc _).drew) ⟨W.heap.size, 0, none⟩ 1 1 [.int .i64 (i : Int)] (by rfl) rfl (cell_one_new _ _ _) (by simp [Value.oneCell']) (by omega) (by unfold maxLen; omega) (by omega) (by have := HSZ.out; simp; omega) _ rfl ?_
              intro g cap w1 hown hgrow hat hlt
              have hk1 := HK.out.1.al.drew.grown hgrow (own_off HRW.out HK.out.1 (by decide))
              have hx1 := HK.out.2.1.al.drew.grown hgrow (own_off HRW.out HK.out.2.1 (by decide))
              have hr1 := HK.out.2.2.hat.al.drew.grown hgrow (own_off HRW.out HK.out.2.2.hat (by decide))
              have fr1 := hr1.free q
              have cr1 := hr1.cell q HVL.out
              have HK3 := Lib.hid (And.intro hk1 (And.intro hx1 hr1)); have HGR := Lib.hid hgrow; have HOW := Lib.hid hown; have HAT := Lib.hid hat; clear hk1 hx1 hr1 hgrow hown hat
              refine hK.out _ _ ⟨(HK3.out.1.cell 0 rfl), (HK3.out.2.1.cell 0 rfl), (HK3.out.2.2.cell q HVL.out)⟩ (fun hHeld => ?_)
              clear hK K
              refine norm_ (a' := ?_) ?_ ?_
              rotate_left
              · show Act.put _ (some 89) _ = _
                simp only [Act.put, pA, pB, pC, pD, pE]; rfl
              refine pure_ (i := 13) (N := some 90) (v := ?_) (a' := ?_) (bA 15 16383) rfl rfl (any_of HT_.out (by kernel_rfl)) (fun _ _ _ h => h) (Or.inl ⟨by rfl, ?_⟩) ?_ ?_
              rotate_left; · intro w'; go_simp; with_reducible rfl
              rotate_left; · simp only [Act.put, pA, pB, pC, pD, pE]; rfl
              refine last_ (i := 14) (N := none) (bA 15 32767) rfl rfl (one_of HT_.out (by kernel_rfl)) (by decide) (fun K hK => ?_)
              refine skip_ (w1 := ?_) (by rfl) rfl ?_ ?_
              rotate_left; · go_simp; rfl
              refine hK.out _ _ ?_; clear hK K
              refine done_ (done_of HT_.out (by kernel_rfl)) ?_
              clear hHeld HT_ HW_; clear d1 d2 d3 fd fr1 cr1 e3
              obtain ⟨_, _, _, _, _, hgd, hq, hqm⟩ := HW.out
              refine gen_q (fun W' => ∃ vals', NS w0 w bc gc gn ga n (ps.map mkN) W' ∧ At W' bk [.slice (some ⟨bo, 0, none⟩) m1 m1] 95 ∧ Rws W' base bo m1 vals' (kidsU ps n (i + 1)) ∧ base ≤ W'.heap.size) ?_ ?_
              · have hba : Below W.heap.size W ((W.alloc (.cells #[.int .i64 (i : Int)] 3)).drew) := ((Below.refl _ _).alloc (Nat.le_refl _) _).drew
                have hrA := HK.out.2.2.below hba
                have ho1 := HOW.out
                rw [nats_snoc] at ho1
                have hbb : bo < base := by have := HBO.out.2.1; have := HBO.out.2.2.1; omega
                have hps := hrA.push (x := i) HVL.out HRR.out hbb HGR.out ho1 HAT.out
                rw [kidsU_succ (by have := HM1.out; omega) (by rw [hgd]; exact hq) HRR.out]
                have hNa := HNW.out.1.below hba
                have hHR := HRW.out
                have hsz := HSZ.out
                have hwb := HBO.out.2.2.2.1
                have hwz := HBO.out.2.2.2.2
                have hgnb : ¬ some gn = (Value.slice A2 r.length c2).ownBlock := own_off hHR HNW.out.1.hgn (by decide)
                have hNg : NS w0 w bc gc gn ga n (ps.map mkN) _ := ⟨hNa.hbc.grown HGR.out (own_off hHR HNW.out.1.hbc (by decide)), hNa.hgc.grown HGR.out (own_off hHR HNW.out.1.hgc (by decide)), hNa.hgn.grown HGR.out hgnb, hNa.hga.grown HGR.out (own_under hHR hwb),
                  hNa.b.grown HGR.out hNa.b.size fun k hk => by have := (hHR.lt k hk).1; have := HX.out.2.1.2.2; omega, hNa.kp.grown HGR.out fun k hk hlt => by have := (hHR.lt k hk).1; omega, hNa.ln⟩
                have hbt := HK3.out.2.2
                have hsg := HGR.out.size
                refine ⟨_, ⟨hNg.hbc.off (hNg.hbc.ne hbt (by decide)), hNg.hgc.off (hNg.hgc.ne hbt (by decide)), hNg.hgn.off (hNg.hgn.ne hbt (by decide)), hNg.hga.off (hNg.hga.ne hbt (by decide)), hNg.b.setCell (by dsimp only; have := hNg.b.size; have := HSZ0.out; omega) _, hNg.kp.set (fun hlt => by dsimp only at hlt; omega) _, hNg.ln⟩, HK3.out.1.off (HK3.out.1.ne hbt (by decide)), hps, ?_⟩
                simp at hsg ⊢
                omega
              clear hgd hq hqm
              rintro W' ⟨vals', hF⟩
              have HF := Lib.hid hF
              clear hF
              go_wp2
              go_roundg k1
              case measure => omega
              case rel => exact ⟨i + 1, by go_num, Lib.hid ⟨vals', by have := HW.out.1; omega, HF.out⟩⟩
            · obtain rfl : n = i := by omega
              rw [kidsU_all HPL.out] at hR
              clear hi hik
              have c0 := hN.hbc.cell 0 rfl
              have hsb := hsz
              have HS := Lib.hid (And.intro hN (And.intro hbkA (And.intro hR hsz)))
              clear hN hbkA hR hsz hsb
              go_upto_region 22 with (fail)
              refine gen_loopw (fun W => Env W bk (wr.heap.size + 1) bc bo gc gn ga wr.heap.size n (kidsT ps n) vals ∧ Mut W gn ga wr.heap.size n (ps.map mkN) (List.replicate (n + 1) 0) 1 ∧ Kpt (· = gn) w W ∧ wr.heap.size < W.heap.size) ?_ ?_
              · obtain ⟨hN, hbkA, hR, hsz⟩ := HS.out
                have hwb := HBO.out.2.2.2.1
                have hre := rows_env hR hwb (Nat.le_refl _)
                rw [← HM1.out] at hbkA
                refine ⟨⟨hbkA.al.al, At.made (by simp) rfl, hN.hbc.al.al, hN.hgc.al.al, hR.hat.al.al, ?_, by simp [kidsT]⟩, ⟨hN.hgn.al.al, hN.hga.al.al, (At.made rfl rfl).al, by have := hN.hga.lt; omega, hN.ln, by simp⟩, (hN.kp.alloc _).alloc _, by simp; omega⟩
                intro u r hr
                obtain ⟨A, c, h1, h2⟩ := hre u r hr
                refine ⟨A, c, h1, h2.imp id ?_⟩
                rintro ⟨b, cs, e1, e2, e3⟩
                exact ⟨b, cs, e1, e2.al.al, e3⟩
              have hbw := HS.out.1.kp.size
              obtain ⟨bx, hbx⟩ : ∃ bx, wr.heap.size = bx := ⟨_, rfl⟩
              rw [hbx] at hbw ⊢
              obtain ⟨bd, hbd⟩ : ∃ bd, bx + 1 = bd := ⟨_, rfl⟩
              rw [hbd]
              clear c0 hbx hbd HS
              rintro W ⟨hE, hM, hk, hlt⟩
              have d0 := hE.hbd.cell 0 rfl
              have hvl : Val n (((0 : Nat) : Int) - 1) := .inl (by omega)
              have hbel : bel ps (n + 2) (((0 : Nat) : Int) - 1) = some (bl ps (-1)) := bel_full HX.out.2.2.2.1 hvl
              have hD := down_calls bk bd bc bo gc gn ga bx n ps rk HX.out.2.2.2.1 hn vals (n + 2) 0 _ W _ _ 1 hbel (Nat.zero_le _) hE hM (by
                have h1 := order_len HX.out.2.2.2.1
                rw [show tl 0 = [] from rfl, h1]
                simp
                omega)
              rw [show ((0 : Nat) : Int) - 1 = -1 by omega, show tl 0 = [] from rfl, List.append_nil] at hD
              have HD := Lib.hid hD
              have HE := Lib.hid (And.intro hE (And.intro hM hk))
              clear hD hE hM hk hvl hbel
              go_wp2_with fail
              refine HD.out.mono ?_
              rintro e w5 ⟨rfl, hM5, hk5⟩
              have H5 := Lib.hid (And.intro hM5 hk5)
              clear hM5 hk5 HD d0
              go_wp2_with fail
              go_end0
              obtain ⟨hE, hM, hk⟩ := HE.out
              obtain ⟨hM5, hk5⟩ := H5.out
              have hE5 := hE.kept hM hk5
              refine ⟨rfl, ⟨hE5.hgc, hM5.hgn, hM5.hga, hM5.ln, hM5.la⟩, ?_⟩
              refine (hk.mono (p' := fun k => k = gn ∨ k = ga) fun k _ h => .inl h).trans' hk5 fun k hlt2 h => ?_
              rcases h with h | h | h
              · exact .inl h
              · exact .inr h
              · omega

end Go.Proofs.Ytdohfjidnbhfnaa.Cv
