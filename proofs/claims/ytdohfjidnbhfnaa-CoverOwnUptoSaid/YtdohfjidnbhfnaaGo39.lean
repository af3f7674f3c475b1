/- CoverOwn, walked. -/
import Derived.Test.YtdohfjidnbhfnaaGo37
import Derived.Test.YtdohfjidnbhfnaaGo38
namespace Go.Proofs.Ytdohfjidnbhfnaa.Lc
open Go Go.RowKit Go.Proofs.Ytdohfjidnbhfnaa.Mem Go.Proofs.Ytdohfjidnbhfnaa.Sl Go.Proofs.Ytdohfjidnbhfnaa.Scc Go.Proofs.Ytdohfjidnbhfnaa.Tj Go.Proofs.Ytdohfjidnbhfnaa.Lw Go.Proofs.Ytdohfjidnbhfnaa.Cv Go.Proofs.Ytdohfjidnbhfnaa.Rb Go.Proofs.YtdohfjidnbhfnaaW.PrintWords Go.Proofs.YtdohfjidnbhfnaaW.PrintLast
attribute [local go_sem ↓] Go.wp_at_zero Go.wp_at_succ
set_option linter.unusedSimpArgs false
set_option linter.unusedVariables false

theorem rdA_pre {w : World} {A : Option Addr} {l more : List (Int × Int)} (h : RdA w A (l ++ more)) : RdA w A l := fun j u v hx => h j u v (by
  rw [List.getElem?_append_left (List.getElem?_eq_some_iff.1 hx).1]
  exact hx)
theorem one_arc {l : List (Int × Int)} {y : Value} (h : y ∈ arcs2 l) : y.oneCell' = true := by
  obtain ⟨p, _, hy⟩ := List.mem_flatMap.1 h
  simp at hy
  rcases hy with rfl | rfl <;> rfl
theorem own_two {w : World} {B g n cap i : Nat} {T : TypeId} {xs : List Value} (h : w.ownsRow B T 2 (.slice (some ⟨g, 0, none⟩) n cap) n xs) (a b : Value) :
    ((w.setCell ⟨g, i, none⟩ a).setCell ⟨g, i + 1, none⟩ b).ownsRow B T 2 (.slice (some ⟨g, 0, none⟩) n cap) n ((xs.set i a).set (i + 1) b) ∧ w.grownBy ((w.setCell ⟨g, i, none⟩ a).setCell ⟨g, i + 1, none⟩ b) (some g) := by
  have s1 := h.stored i a
  have s2 := s1.1.stored (i + 1) b
  refine ⟨s2.1, rfl, rfl, rfl, by have := s1.2.size; have := s2.2.size; omega, fun k hk hne => ?_⟩
  exact (s2.2.block k (by have := s1.2.size; omega) hne).trans (s1.2.block k hk hne)

theorem own_cap {w : World} {B s n cap g : Nat} {T : TypeId} {xs : List Value} (h : w.ownsRow B T s (.slice (some ⟨g, 0, none⟩) n cap) n xs) : n ≤ cap := by
  rcases h.2 with ⟨h', _⟩ | ⟨g', cap', cur, h', _, _, hn, _⟩
  · cases h'
  · cases h'
    exact hn

def tb5_11.T11 : Bool × List (List Nat × List Nat) := (true, [([], []), ([0], [0]), ([1], [1]), ([], []), ([], []), ([4], [4]), ([3, 5], [3, 5]), ([2, 6], [2, 6]), ([7], [7]), ([8], [8]), ([8], [8]), ([9, 7, 0, 1, 2, 3, 4, 5, 6, 7, 8, 9], [9]), ([10, 11, 0, 1, 2, 3, 4, 5, 6, 7, 8, 9, 10, 11], [10])])
def tb5_11.B11 : List Nat := [0, 1, 3, 0, 0, 16, 56, 127, 255, 511, 511, 1023, 4095]
theorem tb5_11.tab11 : rtab .any (opsOf Try.f5 11) = tb5_11.T11 := by kernel_rfl
theorem tb5_11.bits11 : waitsOk tb5_11.T11.2 tb5_11.B11 = true := by kernel_rfl
def tb5_17.T17 : Bool × List (List Nat × List Nat) := (true, [([], []), ([], []), ([0, 1], [0, 1]), ([2], [2]), ([], []), ([], []), ([4, 5], [4, 5]), ([6], [6]), ([3, 7], [3, 7])])
def tb5_17.B17 : List Nat := [0, 0, 3, 7, 0, 0, 48, 112, 255]
theorem tb5_17.tab17 : rtab .any (opsOf Try.f5 17) = tb5_17.T17 := by kernel_rfl
theorem tb5_17.bits17 : waitsOk tb5_17.T17.2 tb5_17.B17 = true := by kernel_rfl
set_option maxHeartbeats 16000000 in
set_option maxRecDepth 100000 in
theorem own_calls (w : World) (n : Int) (a1 : Value) (vv : Int) (arcs : List (Int × Int)) (h1 : ArgV w a1 arcs.length 2 (arcs2 arcs)) :
    Calls Try.prog 5 #[.int .i64 n, a1, .int .i64 vv] w fun e w' => e = .returned (.bool true) ∧ Below w.heap.size w w' := by
  obtain ⟨i2, hi2, hz2, hs2, hy2⟩ := info_parts Lw.info_arc
  obtain ⟨i5, hi5, hz5, hs5, hy5⟩ := info_parts info_span
  have HB := Lib.hid (built_calls w n a1 arcs h1)
  clear h1
  go_enter Try.func5, Try.ntmps5
  go_wp2_with fail
  refine HB.out.mono ?_
  clear HB
  rintro e w1 ⟨nn, l, gc0, gn0, ga0, nd0, al0, L0, rk0, A, AE, AP, AQ, AR, c, ce, cp, cq, cr, hn1, hn2, rfl, hup, hln, hK, hR, hb⟩
  unfold cV
  have HR1 := Lib.hid (And.intro hR hb)
  have HUP := Lib.hid hup
  clear hK hR hb hup
  go_wp2_with fail
  refine gen_any (T := fun W => Calls _ _ _ W _) (fun W => At W w1.heap.size [.slice A nn c, .slice AE l.length ce, .int .i64 0, .int .i64 0, .slice AP nn cp, .slice AQ nn cq, .slice AR nn cr] 30 ∧ Below w1.heap.size w1 W) ?_ ?_
  · exact ⟨At.made rfl rfl, (Below.refl _ _).alloc (Nat.le_refl _) _⟩
  obtain ⟨g8, hg8⟩ : ∃ g8, w1.heap.size = g8 := ⟨_, rfl⟩
  rw [hg8]
  rintro w2 ⟨h8, hb⟩
  rw [← hg8] at hb
  clear hg8
  have H8 := Lib.hid (And.intro h8 hb)
  clear h8 hb
  refine (awake_calls w2).mono ?_
  rintro e w3 ⟨rfl, hb⟩
  have h83 := H8.out.1.below hb H8.out.1.lt
  have q1 := h83.cell 1 rfl
  have hb13 := H8.out.2.trans (hb.mono H8.out.2.size)
  have HR3 := Lib.hid (And.intro (HR1.out.1.below hb13) (And.intro h83 (HR1.out.2.trans (hb13.mono HR1.out.2.size))))
  clear hb hb13 H8 HR1 h83
  go_wp2_with fail
  clear q1
  go_loopg [10, 38] l.length (fun kq v10 v38 w' => ∃ j : Nat, v38 = .int .i64 (j : Int) ∧ Hid (j + kq = l.length ∧ One w3 38 2 v10 (l.take j).length (arcs2 (l.take j)) w'))
  case atStart => exact ⟨0, rfl, Lib.hid ⟨by omega, by simpa [arcs2] using One.start⟩⟩
  case round =>
    obtain ⟨j, rfl, hI⟩ := hrel
    obtain ⟨hjk, hO⟩ := hI.out
    clear hI
    by_cases hj : j < l.length
    · obtain ⟨k1, rfl⟩ : ∃ k1, gk = k1 + 1 := ⟨gk - 1, by omega⟩
      obtain ⟨⟨u, v⟩, hxx⟩ : ∃ x, l[j] = x := ⟨_, rfl⟩
      have hx : l[j]? = some (u, v) := by rw [List.getElem?_eq_getElem hj, hxx]
      obtain ⟨be, rfl, qu, qv⟩ := (HR3.out.1.es.below hO.b) j u v hx
      obtain ⟨be', he', qe, qw⟩ := (HR3.out.1.ex.below hO.b) j hj
      cases he'
      have htk := take_next hx
      obtain ⟨l0, hl0⟩ : ∃ l0, l.take j = l0 := ⟨_, rfl⟩
      have hl0n : l0.length ≤ 120 := by rw [← hl0, List.length_take]; omega
      rw [hl0] at hO htk
      have HO := Lib.hid hO
      have HTK := Lib.hid htk
      have j0 : (0 : Int) ≤ (j : Int) := by omega
      have j1 : (j : Int) < (l.length : Int) := by omega
      have j2 : (l.length : Int) ≤ 120 := by omega
      clear hO htk hx hxx hl0
      go_upto_region 8 with (fail)
      refine gen_world (fun W => At W wr.heap.size [.int .i64 ((j : Int) + 1), .int .i64 u, .int .i64 v, .int .u32 0] 36 ∧ One w3 38 2 u10 l0.length (arcs2 l0) W) ?_ ?_
      · exact ⟨At.made rfl rfl, HO.out.below ((Below.refl _ _).alloc (Nat.le_refl _) _)⟩
      obtain ⟨g12, hg12⟩ : ∃ g12, wr.heap.size = g12 := ⟨_, rfl⟩
      rw [hg12]
      clear HO qu qv qe qw hg12
      rintro wr ⟨hat, hO⟩
      have qu := hat.cell 1 rfl
      have qv := hat.cell 2 rfl
      have HO2 := Lib.hid hO
      clear hat hO
      go_wp2_with ((at_builtin; (refine wpList_append_any rfl (.tmp 42) (.tmp 48) 22 rfl w3.heap.size 38 i2 (.agg #[.int .i64 0, .int .i64 0]) 2 16 Try.underlying22 hi2 hz2 hs2 hy2 rfl (by omega) _ _ _ rfl (HO2.out.r.alloc (.cells #[.int .i64 u, .int .i64 v] 38)) _ rfl 1 [.int .i64 u, .int .i64 v] (RdV.lit _ #[.int .i64 u, .int .i64 v] 38 1 2 1 rfl (by simp [Value.oneCell'])) (by unfold maxLen; omega) (by omega) (by have := HO2.out.b.size; simp; omega) ?_; intro v5 w5 ho hg hn; have hone := (HO2.out.below ((Below.refl _ _).alloc (Nat.le_refl _) (.cells #[.int .i64 u, .int .i64 v] 38))).grow ho hg; have HO5 := Lib.hid hone; clear ho hg hn hone HO2)))
      go_roundg k1
      case measure => omega
      case rel =>
        refine ⟨j + 1, by go_num, Lib.hid ⟨by omega, ?_⟩⟩
        rw [HTK.out, List.length_append, arcs2_append]
        exact HO5.out
    · obtain rfl : j = l.length := by omega
      rw [List.take_length] at hO
      obtain ⟨Al, cl, rfl⟩ := Lw.own_slice hO.r
      have hT : Two w3 38 2 (.slice Al l.length cl) l.length (arcs2 l) 38 2 (.slice (some ⟨wr.heap.size, 0, none⟩) 0 0) 0 [] (wr.alloc (.cells #[] 38)) :=
        hO.and (own_made rfl (Nat.le_refl _)) ((Below.refl _ _).alloc (Nat.le_refl _) _) rfl
      have HT := Lib.hid hT
      have HT0 := Lib.hid (Sp.RdV.of_own hT.r1 (fun y hy => one_arc hy))
      clear hO hT hj hjk
      go_upto_region 11 with ((at_builtin; first | (refine wpList_append_any rfl (.tmp 51) (.tmp 52) 22 rfl w3.heap.size 38 i2 (.agg #[.int .i64 0, .int .i64 0]) 2 16 Try.underlying22 hi2 hz2 hs2 hy2 rfl (by omega) _ 0 [] rfl HT.out.r2 _ rfl l.length (arcs2 l) HT0.out (by unfold maxLen; omega) (by omega) (HT.out.b.size) ?_; intro v5 w5 ho hg hn; rw [Nat.zero_add, List.nil_append] at ho; have htwo := HT.out.grow2 ho hg hn; have HT5 := Lib.hid htwo; clear ho hg hn htwo HT HT0) | (refine wpList_append_any rfl (.tmp 53) (.tmp 55) 22 rfl w3.heap.size 38 i2 (.agg #[.int .i64 0, .int .i64 0]) 2 16 Try.underlying22 hi2 hz2 hs2 hy2 rfl (by omega) _ _ _ rfl (HT5.out.r2.alloc (.cells #[.int .i64 77, .int .i64 78] 38)) _ rfl 1 [.int .i64 77, .int .i64 78] (RdV.lit _ #[.int .i64 77, .int .i64 78] 38 1 2 1 rfl (by simp [Value.oneCell'])) (by unfold maxLen; omega) (by omega) (by have := HT5.out.b.size; simp; omega) ?_; intro v6 w6 ho hg hn; have htwo := (HT5.out.below ((Below.refl _ _).alloc (Nat.le_refl _) (.cells #[.int .i64 77, .int .i64 78] 38))).grow2 ho hg hn; have HT6 := Lib.hid htwo; clear ho hg hn htwo HT5)))
      obtain ⟨gf, cf, rfl, hgf, hgfl⟩ := HT6.out.r2.form (by omega)
      have hcap : l.length + 1 ≤ cf := own_cap HT6.out.r2
      have hro : w6.ownsRow w3.heap.size 38 2 (.slice (some ⟨gf, 0, none⟩) (l ++ [((77 : Int), (78 : Int))]).length cf) (l ++ [((77 : Int), (78 : Int))]).length (arcs2 (l ++ [((77 : Int), (78 : Int))])) := by
        rw [List.length_append, arcs2_append]
        exact HT6.out.r2
      have hrf := (RdA.of_own hro).1
      have q5 := (HR3.out.2.1.below HT6.out.b HR3.out.2.1.lt).cell 5 rfl
      have hBU := build_kn w6.drew nn (some ⟨gf, 0, none⟩) cf l (rdA_pre hrf) (by omega) (by omega) HUP.out.acy
      have HBU := Lib.hid hBU
      have HRF := Lib.hid hrf
      have l0 : (0 : Int) ≤ (l.length : Int) := by omega
      have l1 : (l.length : Int) ≤ (cf : Int) := by omega
      have l2 : (l.length : Int) ≤ 120 := by omega
      clear hrf hBU hcap
      refine start_ (n := 13) (S := fun w' => w'.cell? ⟨g8, 5, none⟩ = some (.slice AQ nn cq)) (ds := []) (bA 13 0) (by kernel_rfl) rfl rfl (q5) (fun hHeld => ?_)
      refine with_tabW tb5_11.tab11 tb5_11.bits11 (fun HT_ HW_ => ?_)
      refine pure_ (i := 0) (N := some 58) (v := ?_) (a' := ?_) (bA 13 1) rfl rfl (any_of HT_.out (by kernel_rfl)) (fun _ _ _ h => h) (Or.inl ⟨by rfl, ?_⟩) ?_ ?_
      rotate_left; · intro w'; go_simp; with_reducible rfl
      rotate_left; · simp only [Act.put, pA, pB, pC, pD, pE]; rfl
      refine pure_ (i := 3) (N := some 61) (v := ?_) (a' := ?_) (bA 13 9) rfl rfl (any_of HT_.out (by kernel_rfl)) (fun _ _ _ h => h) (Or.inl ⟨by rfl, ?_⟩) ?_ ?_
      rotate_left; · intro w'; go_simp; with_reducible rfl
      rotate_left; · simp only [Act.put, pA, pB, pC, pD, pE]; rfl
      refine pure_ (i := 4) (N := some 62) (v := ?_) (a' := ?_) (bA 13 25) rfl rfl (any_of HT_.out (by kernel_rfl)) (fun _ _ _ h => h) (Or.inl ⟨by rfl, ?_⟩) ?_ ?_
      rotate_left; · intro w'; go_simp; with_reducible rfl
      rotate_left; · simp only [Act.put, pA, pB, pC, pD, pE]; rfl
      refine pure_ (i := 5) (N := some 63) (v := ?_) (a' := ?_) (bA 13 57) rfl rfl (any_of HT_.out (by kernel_rfl)) (fun _ _ _ h => h) (Or.inl ⟨by rfl, ?_⟩) ?_ ?_
      rotate_left; · intro w'; go_simp; with_reducible rfl
      rotate_left; · simp only [Act.put, pA, pB, pC, pD, pE]; rfl
      refine pure_ (i := 6) (N := some 64) (v := ?_) (a' := ?_) (bA 13 121) rfl rfl (any_of HT_.out (by kernel_rfl)) (fun _ _ _ h => h) (Or.inl ⟨by rfl, ?_⟩) ?_ ?_
      rotate_left; · intro w'; go_simp; with_reducible rfl
      rotate_left; · simp only [Act.put, pA, pB, pC, pD, pE]; rfl
      refine take_ (i := 1) (N := some 59) (v := ?_) (a' := ?_) (bA 13 123) rfl rfl (take_ofW HT_.out HW_.out (by kernel_rfl)) (fun _ _ _ h => h) (Or.inl ⟨by rfl, ?_⟩) hHeld ?_ ?_
      rotate_left
      · intro w' s0
        go_simp; with_reducible rfl
      rotate_left; · simp only [Act.put, pA, pB, pC, pD, pE]; rfl
      refine pure_ (i := 2) (N := some 60) (v := ?_) (a' := ?_) (bA 13 127) rfl rfl (any_of HT_.out (by kernel_rfl)) (fun _ _ _ h => h) (Or.inl ⟨by rfl, ?_⟩) ?_ ?_
      rotate_left; · intro w'; go_simp; with_reducible rfl
      rotate_left; · simp only [Act.put, pA, pB, pC, pD, pE]; rfl
      refine one_ (i := 7) (N := some 65) (bA 13 255) rfl rfl (one_of HT_.out (by kernel_rfl)) (by decide) (fun K hK => ?_)
      refine goes_ Try.func12 (by kernel_rfl) rfl #[.int .i64 (nn : Int), .slice (some ⟨gf, 0, none⟩) l.length cf] (by rfl) rfl rfl (by simp only [List.map_toArray, List.map_cons, List.map_nil]; rfl) ?_
      with_reducible refine (HBU.out).mono ?_
      rintro e w7 ⟨gc, gn, ga, nd, al, L, rk, comp, mm, rfl, hK7, _, _, hb7⟩
      refine ⟨_, rfl, ?_⟩
      refine hK.out _ _ ((keep_at hb7 q5)) (fun hHeld => ?_)
      clear hK K
      refine norm_ (a' := ?_) ?_ ?_
      rotate_left
      · show Act.put _ (some 65) _ = _
        simp only [Act.put, pA, pB, pC, pD, pE]; rfl
      refine pure_ (i := 8) (N := some 57) (v := ?_) (a' := ?_) (bA 13 511) rfl rfl (any_of HT_.out (by kernel_rfl)) (fun _ _ _ h => h) (Or.inl ⟨by rfl, ?_⟩) ?_ ?_
      rotate_left; · intro w'; go_simp; with_reducible rfl
      rotate_left; · simp only [Act.put, pA, pB, pC, pD, pE]; rfl
      refine pure_ (i := 9) (N := some 66) (v := ?_) (a' := ?_) (bA 13 1023) rfl rfl (any_of HT_.out (by kernel_rfl)) (fun _ _ _ h => h) (Or.inl ⟨by rfl, ?_⟩) ?_ ?_
      rotate_left; · intro w'; go_simp; with_reducible rfl
      rotate_left; · simp only [Act.put, pA, pB, pC, pD, pE]; rfl
      refine pure_ (i := 10) (N := some 67) (v := ?_) (a' := ?_) (bA 13 2047) rfl rfl (any_of HT_.out (by kernel_rfl)) (fun _ _ _ h => h) (Or.inl ⟨by rfl, ?_⟩) ?_ ?_
      rotate_left; · intro w'; go_simp; with_reducible rfl
      rotate_left; · simp only [Act.put, pA, pB, pC, pD, pE]; rfl
      refine pure_ (i := 11) (N := some 14) (v := ?_) (a' := ?_) (bA 13 4095) rfl rfl (any_of HT_.out (by kernel_rfl)) (fun _ _ _ h => h) (Or.inl ⟨by rfl, ?_⟩) ?_ ?_
      rotate_left; · intro w'; go_simp; with_reducible rfl
      rotate_left; · simp only [Act.put, pA, pB, pC, pD, pE]; rfl
      refine pure_ (i := 12) (N := some 15) (v := ?_) (a' := ?_) (bA 13 8191) rfl rfl (any_of HT_.out (by kernel_rfl)) (fun _ _ _ h => h) (Or.inl ⟨by rfl, ?_⟩) ?_ ?_
      rotate_left; · intro w'; go_simp; with_reducible rfl
      rotate_left; · simp only [Act.put, pA, pB, pC, pD, pE]; rfl
      refine done_ (done_of HT_.out (by kernel_rfl)) ?_
      clear hHeld HT_ HW_
      obtain ⟨m1, hm1⟩ : ∃ m1, l.length + 1 = m1 := ⟨_, rfl⟩
      clear hro
      rw [hm1] at HT6 ⊢
      refine gen_then (fun W => Kn w6.drew W gc nn l l gn ga nd al L rk ∧ RdA W Al l ∧ RdA W (some ⟨gf, 0, none⟩) (l ++ [((77 : Int), (78 : Int))]) ∧ W.ownsRow w3.heap.size 38 2 (.slice (some ⟨gf, 0, none⟩) m1 cf) m1 (arcs2 l ++ [.int .i64 77, .int .i64 78]) ∧ Below w3.heap.size w3 W) ?_ ?_
      · have h2 := HT6.out.below (Below.drewL hb7)
        exact ⟨hK7, (RdA.of_own h2.r1).1, HRF.out.below (Below.drewL hb7), h2.r2, h2.b⟩
      clear HT6 hgf hgfl q5 HBU hK7 hb7 HRF
      rintro w8 ⟨hK, hl8, hf8, ho8, hb8⟩
      obtain ⟨b0, hb0, qa, qb⟩ := hf8 l.length 77 78 (by simp)
      cases hb0
      have H8 := Lib.hid (And.intro hK (And.intro hl8 (And.intro hf8 (And.intro ho8 hb8))))
      have m0 : (l.length : Int) < (m1 : Int) := by omega
      clear hK hl8 hf8 ho8 hb8
      go_wp2_with fail
      clear qa qb
      go_loopg [85] l.length (fun kq v85 w' => ∃ i : Nat, v85 = .int .i64 (i : Int) ∧ Hid (i + kq = l.length ∧ ∃ q, w' = w8.drewN q))
      case atStart => exact ⟨0, rfl, Lib.hid ⟨by omega, 0, rfl⟩⟩
      case round =>
        obtain ⟨i, rfl, hI⟩ := hrel
        obtain ⟨hik, q, rfl⟩ := hI.out
        clear hI
        by_cases hi : i < l.length
        · obtain ⟨k1, rfl⟩ : ∃ k1, gk = k1 + 1 := ⟨gk - 1, by omega⟩
          obtain ⟨⟨u, v⟩, hx⟩ : ∃ x, l[i]? = some x := ⟨_, List.getElem?_eq_getElem hi⟩
          obtain ⟨bl, rfl, c0', c1'⟩ := H8.out.2.1 i u v hx
          obtain ⟨b2, hb2, a0', a1'⟩ := (rdA_pre H8.out.2.2.1) i u v hx
          cases hb2
          have a0 : (w8.drewN q).cell? ⟨gf, i * 2, none⟩ = some (.int .i64 u) := a0'
          have a1 : (w8.drewN q).cell? ⟨gf, i * 2 + 1, none⟩ = some (.int .i64 v) := a1'
          have c0 : (w8.drewN q).cell? ⟨bl, i * 2, none⟩ = some (.int .i64 u) := c0'
          have c1 : (w8.drewN q).cell? ⟨bl, i * 2 + 1, none⟩ = some (.int .i64 v) := c1'
          have i0 : (0 : Int) ≤ (i : Int) := by omega
          have i1 : (i : Int) < (l.length : Int) := by omega
          have i3 : (i : Int) < (m1 : Int) := by omega
          clear a0' a1' c0' c1' hx hi
          go_upto_region 17 with (fail)
          refine start_ (n := 9) (S := fun w' => w'.cell? ⟨gf, i * 2, none⟩ = some (.int .i64 u) ∧ w'.cell? ⟨gf, i * 2 + 1, none⟩ = some (.int .i64 v) ∧ w'.cell? ⟨bl, i * 2, none⟩ = some (.int .i64 u) ∧ w'.cell? ⟨bl, i * 2 + 1, none⟩ = some (.int .i64 v)) (ds := []) (bA 9 0) (by kernel_rfl) rfl rfl ⟨a0, a1, c0, c1⟩ (fun hHeld => ?_)
          refine with_tabW tb5_17.tab17 tb5_17.bits17 (fun HT_ HW_ => ?_)
          refine pure_ (i := 0) (N := some 88) (v := ?_) (a' := ?_) (bA 9 1) rfl rfl (any_of HT_.out (by kernel_rfl)) (fun _ _ _ h => h) (Or.inl ⟨by rfl, ?_⟩) ?_ ?_
          rotate_left; · intro w'; go_simp; with_reducible rfl
          rotate_left; · simp only [Act.put, pA, pB, pC, pD, pE]; rfl
          refine pure_ (i := 1) (N := some 89) (v := ?_) (a' := ?_) (bA 9 3) rfl rfl (any_of HT_.out (by kernel_rfl)) (fun _ _ _ h => h) (Or.inl ⟨by rfl, ?_⟩) ?_ ?_
          rotate_left; · intro w'; go_simp; with_reducible rfl
          rotate_left; · simp only [Act.put, pA, pB, pC, pD, pE]; rfl
          refine pure_ (i := 2) (N := some 90) (v := ?_) (a' := ?_) (bA 9 7) rfl rfl (any_of HT_.out (by kernel_rfl)) (fun _ _ _ h => h) (Or.inl ⟨by rfl, ?_⟩) ?_ ?_
          rotate_left; · intro w'; go_simp; with_reducible rfl
          rotate_left; · simp only [Act.put, pA, pB, pC, pD, pE]; rfl
          refine pure_ (i := 4) (N := some 92) (v := ?_) (a' := ?_) (bA 9 23) rfl rfl (any_of HT_.out (by kernel_rfl)) (fun _ _ _ h => h) (Or.inl ⟨by rfl, ?_⟩) ?_ ?_
          rotate_left; · intro w'; go_simp; with_reducible rfl
          rotate_left; · simp only [Act.put, pA, pB, pC, pD, pE]; rfl
          refine pure_ (i := 5) (N := some 93) (v := ?_) (a' := ?_) (bA 9 55) rfl rfl (any_of HT_.out (by kernel_rfl)) (fun _ _ _ h => h) (Or.inl ⟨by rfl, ?_⟩) ?_ ?_
          rotate_left; · intro w'; go_simp; with_reducible rfl
          rotate_left; · simp only [Act.put, pA, pB, pC, pD, pE]; rfl
          refine pure_ (i := 6) (N := some 94) (v := ?_) (a' := ?_) (bA 9 119) rfl rfl (any_of HT_.out (by kernel_rfl)) (fun _ _ _ h => h) (Or.inl ⟨by rfl, ?_⟩) ?_ ?_
          rotate_left; · intro w'; go_simp; with_reducible rfl
          rotate_left; · simp only [Act.put, pA, pB, pC, pD, pE]; rfl
          refine take_ (i := 3) (N := some 91) (v := ?_) (a' := ?_) (bA 9 127) rfl rfl (take_ofW HT_.out HW_.out (by kernel_rfl)) (fun _ _ _ h => h) (Or.inl ⟨by rfl, ?_⟩) hHeld ?_ ?_
          rotate_left
          · rintro w' ⟨s0, s1, s2, s3⟩
            go_simp; with_reducible rfl
          rotate_left; · simp only [Act.put, pA, pB, pC, pD, pE]; rfl
          refine take_ (i := 7) (N := some 95) (v := ?_) (a' := ?_) (bA 9 255) rfl rfl (take_ofW HT_.out HW_.out (by kernel_rfl)) (fun _ _ _ h => h) (Or.inl ⟨by rfl, ?_⟩) hHeld ?_ ?_
          rotate_left
          · rintro w' ⟨s0, s1, s2, s3⟩
            go_simp; with_reducible rfl
          rotate_left; · simp only [Act.put, pA, pB, pC, pD, pE]; rfl
          refine pure_ (i := 8) (N := some 96) (v := ?_) (a' := ?_) (bA 9 511) rfl rfl (any_of HT_.out (by kernel_rfl)) (fun _ _ _ h => h) (Or.inl ⟨by rfl, ?_⟩) ?_ ?_
          rotate_left; · intro w'; go_simp; with_reducible rfl
          rotate_left; · simp only [Act.put, pA, pB, pC, pD, pE]; rfl
          refine done_ (done_of HT_.out (by kernel_rfl)) ?_
          clear hHeld HT_ HW_; clear a0 a1 c0 c1
          go_wp2
          go_roundg k1
          case measure => omega
          case rel => exact ⟨i + 1, by go_num, Lib.hid ⟨by omega, q + 1, rfl⟩⟩
        · obtain rfl : i = l.length := by omega
          have hbq := Mem.Below.drN (Below.refl w8.heap.size w8) q
          have h9 := And.intro (H8.out.1.below hbq) (And.intro (Lw.own_below H8.out.2.2.2.1 hbq) (H8.out.2.2.2.2.trans (hbq.mono H8.out.2.2.2.2.size)))
          obtain ⟨w9, hw9⟩ : ∃ w9, w8.drewN q = w9 := ⟨_, rfl⟩
          rw [hw9] at h9 ⊢
          have H9 := Lib.hid h9
          clear h9 hbq hw9 hi hik H8
          go_wp2_with fail
          go_loopg [100] m1 (fun kq v100 w' => ∃ i : Nat, v100 = .int .i64 (i : Int) ∧ Hid (i + kq = m1 ∧ Kn w6.drew w' gc nn l l gn ga nd al L rk ∧ (∃ xs, w'.ownsRow w3.heap.size 38 2 (.slice (some ⟨gf, 0, none⟩) m1 cf) m1 xs) ∧ Below w3.heap.size w3 w'))
          case atStart => exact ⟨0, rfl, Lib.hid ⟨by omega, H9.out.1, ⟨_, H9.out.2.1⟩, H9.out.2.2⟩⟩
          case round =>
            clear H9
            obtain ⟨i, rfl, hI⟩ := hrel
            obtain ⟨hik, hK, ⟨xs, ho⟩, hb⟩ := hI.out
            clear hI
            by_cases hi : i < m1
            · obtain ⟨k1, rfl⟩ : ∃ k1, gk = k1 + 1 := ⟨gk - 1, by omega⟩
              have hxl := ho.1
              obtain ⟨x0, hx0⟩ : ∃ x, xs[i * 2]? = some x := ⟨_, List.getElem?_eq_getElem (by omega)⟩
              obtain ⟨x1, hx1⟩ : ∃ x, xs[i * 2 + 1]? = some x := ⟨_, List.getElem?_eq_getElem (by omega)⟩
              have c0 := (ho.cellAt (i * 2) (by omega)).trans hx0
              have c1 := (ho.cellAt (i * 2 + 1) (by omega)).trans hx1
              have f0 := ho.frozenAt (i * 2)
              have f1 := ho.frozenAt (i * 2 + 1)
              have i0 : (0 : Int) ≤ (i : Int) := by omega
              have i1 : (i : Int) < (m1 : Int) := by omega
              have i3 : (m1 : Int) ≤ 121 := by omega
              have H := Lib.hid (And.intro hK (And.intro ho hb))
              clear hK ho hb hx0 hx1 hxl hi
              go_wp2
              go_roundg k1
              case measure => omega
              case rel =>
                obtain ⟨hK, ho, hb⟩ := H.out
                obtain ⟨g1, g2⟩ := own_two (i := i * 2) ho (.int .i64 (-1)) (.int .i64 (-1))
                exact ⟨i + 1, by go_num, Lib.hid ⟨by omega, hK.grown ho g2, ⟨_, g1⟩, hb.grown g2 hb.size fun k hk => (ho.lt k hk).1⟩⟩
            · obtain rfl : i = m1 := by omega
              have q5 := (HR3.out.2.1.below hb HR3.out.2.1.lt).cell 5 rfl
              obtain ⟨a1', a2'⟩ := md_eq nn vv (by omega)
              obtain ⟨ma, hma⟩ : ∃ ma, md nn vv = ma := ⟨_, rfl⟩
              rw [hma] at a1' a2'
              have e1 : IntKind.u64.wrap (nn : Int) = (nn : Int) := by rw [IntKind.wrap_u64]; omega
              have e2 : wrap64 (ma : Int) = (ma : Int) := by unfold wrap64; omega
              have nz : ¬ nn = 0 := by omega
              have hLB := hK.label_ a2'
              have hrun := hK.runs a2'
              obtain ⟨wB, hwB⟩ : ∃ wB, wr = wB := ⟨_, rfl⟩
              rw [hwB] at hK hb hLB q5 ⊢
              have HLB := Lib.hid hLB
              have HKB := Lib.hid (And.intro hK hb)
              clear hK hb hLB ho hi hik hma hwB
              go_wp2_with fail
              refine HLB.out.mono ?_
              clear HLB q5 e1 e2 a1' nz
              rintro e w10 ⟨v1, rfl, ho, hb10⟩
              obtain ⟨Ao, co, rfl⟩ := Lw.own_slice ho
              obtain ⟨n1, hn1'⟩ : ∃ n1, (L ma).length = n1 := ⟨_, rfl⟩
              rw [hn1'] at ho hrun ⊢
              have hO : One wB 55 2 (.slice Ao n1 co) n1 (spans2 (L ma)) w10 := ⟨ho, hb10⟩
              have HO := Lib.hid hO
              clear ho hb10 hO hn1'
              go_wp2_with fail
              go_loopg [121] n1 (fun kq v121 w' => ∃ i : Nat, v121 = .int .i64 (i : Int) ∧ Hid (i + kq = n1 ∧ ∃ xs, One wB 55 2 (.slice Ao n1 co) n1 xs w'))
              case atStart => exact ⟨0, rfl, Lib.hid ⟨by omega, _, HO.out⟩⟩
              case round =>
                clear HO
                obtain ⟨i, rfl, hI⟩ := hrel
                obtain ⟨hik, xs, hO⟩ := hI.out
                clear hI
                by_cases hi : i < n1
                · obtain ⟨k1, rfl⟩ : ∃ k1, gk = k1 + 1 := ⟨gk - 1, by omega⟩
                  obtain ⟨go, co', hgo, _, _⟩ := hO.r.form (by omega)
                  simp only [Value.slice.injEq] at hgo
                  obtain ⟨rfl, _, rfl⟩ := hgo
                  have ho := hO.r
                  have hxl := ho.1
                  obtain ⟨x0, hx0⟩ : ∃ x, xs[i * 2]? = some x := ⟨_, List.getElem?_eq_getElem (by omega)⟩
                  obtain ⟨x1, hx1⟩ : ∃ x, xs[i * 2 + 1]? = some x := ⟨_, List.getElem?_eq_getElem (by omega)⟩
                  have c0 := (ho.cellAt (i * 2) (by omega)).trans hx0
                  have c1 := (ho.cellAt (i * 2 + 1) (by omega)).trans hx1
                  have f0 := ho.frozenAt (i * 2)
                  have f1 := ho.frozenAt (i * 2 + 1)
                  have i0 : (0 : Int) ≤ (i : Int) := by omega
                  have i1 : (i : Int) < (n1 : Int) := by omega
                  have i3 : (n1 : Int) ≤ 256 := by omega
                  have H := Lib.hid hO
                  clear ho hO hx0 hx1 hxl hi
                  go_wp2
                  go_roundg k1
                  case measure => omega
                  case rel =>
                    obtain ⟨g1, g2⟩ := own_two (i := i * 2) H.out.r (.int .i64 (-9)) (.int .i64 0)
                    exact ⟨i + 1, by go_num, Lib.hid ⟨by omega, _, H.out.grow g1 g2⟩⟩
                · obtain rfl : i = n1 := by omega
                  have HO := Lib.hid hO
                  clear hO hi hik
                  go_wp2_with fail
                  go_loopg [18, 20] 20 (fun kq v18 v20 w' => ∃ j : Nat, v20 = .int .i64 (j : Int) ∧ Hid (j + kq = 20 ∧ ∃ xs, One wB 55 2 v18 (i + j) xs w' ∧ (j = 0 ∨ ∃ xs', xs = xs' ++ [.int .i64 0, .int .i64 9])))
                  case atStart => exact ⟨0, rfl, Lib.hid ⟨by omega, _, HO.out, .inl rfl⟩⟩
                  case round =>
                    clear HO
                    obtain ⟨j, rfl, hI⟩ := hrel
                    obtain ⟨hjk, xs, hO, hxs⟩ := hI.out
                    clear hI
                    have j0 : (0 : Int) ≤ (j : Int) := by omega
                    by_cases hj : j < 20
                    · obtain ⟨k1, rfl⟩ : ∃ k1, gk = k1 + 1 := ⟨gk - 1, by omega⟩
                      have j1 : (j : Int) < 20 := by omega
                      have HO := Lib.hid hO
                      clear hO hxs hj
                      go_wp2_with ((at_builtin; (refine wpList_append_any rfl (.tmp 133) (.tmp 135) 52 rfl wB.heap.size 55 i5 (.agg #[.int .i64 0, .int .i64 0]) 2 16 Try.underlying52 hi5 hz5 hs5 hy5 rfl (by omega) _ _ _ rfl (HO.out.r.alloc (.cells #[.int .i64 0, .int .i64 9] 55)) _ rfl 1 [.int .i64 0, .int .i64 9] (RdV.lit _ #[.int .i64 0, .int .i64 9] 55 1 2 1 rfl (by simp [Value.oneCell'])) (by unfold maxLen; omega) (by omega) (by have := HO.out.b.size; simp; omega) ?_; intro v5 w5 ho hg hn; have hone := (HO.out.below ((Below.refl _ _).alloc (Nat.le_refl _) (.cells #[.int .i64 0, .int .i64 9] 55))).grow ho hg; have HO5 := Lib.hid hone; clear ho hg hn hone HO)))
                      go_roundg k1
                      case measure => omega
                      case rel => exact ⟨j + 1, by go_num, Lib.hid ⟨by omega, _, HO5.out, .inr ⟨_, rfl⟩⟩⟩
                    · obtain rfl : j = 20 := by omega
                      obtain ⟨xs', rfl⟩ : ∃ xs', xs = xs' ++ [.int .i64 0, .int .i64 9] := by
                        rcases hxs with h | h
                        · cases h
                        · exact h
                      obtain ⟨go, c2, rfl, _, _⟩ := hO.r.form (by omega)
                      obtain ⟨k2, hk2⟩ : ∃ k2, i + 19 = k2 := ⟨_, rfl⟩
                      obtain ⟨m2, hm2⟩ : ∃ m2, i + 20 = m2 := ⟨_, rfl⟩
                      rw [hm2] at hO ⊢
                      have hxl := hO.r.1
                      rw [List.length_append, List.length_cons, List.length_cons, List.length_nil] at hxl
                      have ql := (hO.r.cellAt (k2 * 2 + 1) (by omega)).trans (show (xs' ++ [.int .i64 0, .int .i64 9])[k2 * 2 + 1]? = some (.int .i64 9) by
                        rw [List.getElem?_append_right (by omega), show k2 * 2 + 1 - xs'.length = 1 by omega]; rfl)
                      have d1 : (m2 : Int) - 1 = (k2 : Int) := by omega
                      have d2 : (0 : Int) ≤ (k2 : Int) := by omega
                      have d3 : (k2 : Int) < (m2 : Int) := by omega
                      have d4 : (m2 : Int) ≤ 300 := by omega
                      have hbw := HKB.out.2.trans (hO.b.mono HKB.out.2.size)
                      have hx := HR3.out.2.1.below hbw HR3.out.2.1.lt
                      have q0 := hx.cell 0 rfl
                      have q1 := hx.cell 1 rfl
                      have q2 := hx.cell 2 rfl
                      have q3 := hx.cell 3 rfl
                      have q4 := hx.cell 4 rfl
                      have q5 := hx.cell 5 rfl
                      have q6 := hx.cell 6 rfl
                      have hT := tells_calls wr A AE AP AQ AR c l.length ce cp cq cr (HKB.out.1.below hO.b) hn2 (HR3.out.1.ps.below hbw) (HR3.out.1.qs.below hbw) (HR3.out.1.rs.below hbw)
                      unfold cV at hT
                      have HT := Lib.hid hT
                      have HBW := Lib.hid (HR3.out.2.2.trans (hbw.mono HR3.out.2.2.size))
                      clear hT hx hbw hO hxl hj hjk hk2 hm2 hxs
                      go_wp2_with fail
                      refine HT.out.mono ?_
                      clear HT q0 q1 q2 q3 q4 q5 q6
                      rintro e w12 ⟨rfl, hb12⟩
                      have ql2 := keep_at hb12 ql
                      have HB12 := Lib.hid (HBW.out.trans (hb12.mono HBW.out.size))
                      clear ql hb12
                      go_wp2_with fail
                      go_ret
                      exact ⟨rfl, HB12.out⟩
end Go.Proofs.Ytdohfjidnbhfnaa.Lc
