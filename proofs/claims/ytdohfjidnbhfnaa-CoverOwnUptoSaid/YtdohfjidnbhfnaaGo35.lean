/- brambleref11: Is, Node, Low. -/
import Derived.Test.YtdohfjidnbhfnaaGo34
namespace Go.Proofs.Ytdohfjidnbhfnaa.Rb
open Go Go.RowKit Go.Proofs.Ytdohfjidnbhfnaa.Mem Go.Proofs.Ytdohfjidnbhfnaa.Sl Go.Proofs.Ytdohfjidnbhfnaa.Scc Go.Proofs.Ytdohfjidnbhfnaa.Tj Go.Proofs.Ytdohfjidnbhfnaa.Lw Go.Proofs.Ytdohfjidnbhfnaa.Cv Go.Proofs.YtdohfjidnbhfnaaW.PrintWords Go.Proofs.YtdohfjidnbhfnaaW.PrintLast
attribute [local go_sem ↓] Go.wp_at_zero Go.wp_at_succ
set_option linter.unusedSimpArgs false
set_option linter.unusedVariables false

set_option maxHeartbeats 4000000 in
theorem node_ref (w : World) (A : Option Addr) (n c : Nat) (AE : Option Addr) (m ce : Nat) (AP : Option Addr) (np cp : Nat) (AQ : Option Addr) (cq : Nat) (AR : Option Addr) (nr cr : Nat) (pars : List Int) (rk : Nat → Nat) (hrk : Rk n pars rk) (hn : n ≤ 256) (x : Nat) (hx : x < n) (hq : RdI w AQ (postsOf n pars)) :
    Calls Try.prog 51 #[cV A n c AE m ce AP np cp AQ n cq AR nr cr, .int .i64 (postN pars x : Int)] w fun e w' => e = .returned (.int .i64 (x : Int)) ∧ Below w.heap.size w w' := by
  unfold cV
  have HX := Lib.hid (And.intro hq (And.intro hrk hx))
  obtain ⟨po, hpo⟩ : ∃ po, postN pars x = po := ⟨_, rfl⟩
  rw [hpo]
  have HP := Lib.hid hpo
  clear hq hrk hpo
  go_enter Try.func51, Try.ntmps51
  go_wp2_with fail
  refine gen_loopw (fun W => At W w.heap.size [.slice A n c, .slice AE m ce, .int .i64 0, .int .i64 0, .slice AP np cp, .slice AQ n cq, .slice AR nr cr] 30 ∧ Below w.heap.size w W) ?_ ?_
  · exact ⟨At.made rfl rfl, (Below.refl _ _).alloc (Nat.le_refl _) _⟩
  obtain ⟨gx, hgx⟩ : ∃ gx, w.heap.size = gx := ⟨_, rfl⟩
  rw [hgx]
  rintro w3 ⟨hat, hb⟩
  rw [← hgx] at hb
  have HAT := Lib.hid hat
  have HB := Lib.hid hb
  clear hat hb hgx
  go_loopg [5] (x + 1) (fun kq v5 w' => ∃ j : Nat, v5 = .int .i64 (j : Int) ∧ Hid (j + kq = x + 1 ∧ j ≤ x ∧ w' = w3))
  case atStart => exact ⟨0, rfl, Lib.hid ⟨by omega, by omega, rfl⟩⟩
  case round =>
    obtain ⟨j, rfl, hI⟩ := hrel
    obtain ⟨hjk, hjx, hw⟩ := hI.out
    clear hI
    rw [hw]
    have q5 := HAT.out.cell 5 rfl
    obtain ⟨k1, rfl⟩ : ∃ k1, gk = k1 + 1 := ⟨gk - 1, by omega⟩
    obtain ⟨bq, rfl, qj⟩ := (HX.out.1.below HB.out) j _ (postsOf_at (by omega))
    have j0 : (0 : Int) ≤ (j : Int) := by omega
    have j1 : (j : Int) < (n : Int) := by omega
    have j2 : (n : Int) ≤ 256 := by omega
    by_cases hj : j = x
    · subst hj
      rw [HP.out] at qj
      clear hw hjk hjx hx
      go_wp2
      go_ret
      exact ⟨rfl, HB.out⟩
    · have hne : postN pars j ≠ po := fun h => hj (post_inj HX.out.2.1 (by omega) hx (by rw [h, HP.out]))
      obtain ⟨pj, hpj⟩ : ∃ pj, postN pars j = pj := ⟨_, rfl⟩
      rw [hpj] at qj hne
      have e1 : ((pj : Int) == (po : Int)) = false := beq_eq_false_iff_ne.2 (by omega)
      have e2 : (pj == po) = false := beq_eq_false_iff_ne.2 hne
      clear hw hpj
      go_wp2
      go_roundg k1
      case measure => omega
      case rel => exact ⟨j + 1, by go_num, Lib.hid ⟨by omega, by omega, rfl⟩⟩
def LoM (pars : List Int) (v : Nat) (l : List Nat) (m : Nat) : Prop := (∃ z, (z ∈ l ∨ z = v) ∧ postN pars z = m) ∧ ∀ z, (z ∈ l ∨ z = v) → m ≤ postN pars z
theorem LoM.start (pars : List Int) (v : Nat) : LoM pars v [] (postN pars v) := ⟨⟨v, .inr rfl, rfl⟩, fun z h => by rcases h with h | rfl; simp at h; exact Nat.le_refl _⟩
theorem LoM.next {pars : List Int} {v m y : Nat} {l : List Nat} (h : LoM pars v l m) : LoM pars v (l ++ [y]) (min m (postN pars y)) := by
  obtain ⟨⟨z, hz, he⟩, h2⟩ := h
  constructor
  · rcases Nat.le_total m (postN pars y) with g | g
    · exact ⟨z, hz.imp (fun h => by simp [h]) id, by rw [Nat.min_eq_left g, he]⟩
    · exact ⟨y, .inl (by simp), by rw [Nat.min_eq_right g]⟩
  · intro x hx
    rcases hx with hx | rfl
    · rcases List.mem_append.1 hx with hx | hx
      · exact Nat.le_trans (Nat.min_le_left _ _) (h2 x (.inl hx))
      · have : x = y := by simpa using hx
        subst this
        exact Nat.min_le_right _ _
    · exact Nat.le_trans (Nat.min_le_left _ _) (h2 x (.inr rfl))
theorem LoM.fin {n : Nat} {pars : List Int} {rk : Nat → Nat} {v m : Nat} (hrk : Rk n pars rk) (hv : v < n) (h : LoM pars v (bl pars (v : Int)) m) : m = lowN pars v := by
  obtain ⟨h1, h2, h3, h4⟩ := low_post hrk hv
  obtain ⟨⟨z, hz, he⟩, g2⟩ := h
  have a := (h4 m).2 ⟨z, hz, he⟩
  obtain ⟨y, hy, hye⟩ := (h4 (lowN pars v)).1 ⟨Nat.le_refl _, h2⟩
  have := g2 y hy
  omega

def tb35_6.T6 : Bool × List (List Nat × List Nat) := (true, [([], []), ([], []), ([1], [1]), ([], []), ([], []), ([3, 4], [3, 4]), ([5], [5]), ([2, 6], [2, 6]), ([7], [7]), ([0, 8], [0, 8]), ([9, 0, 1, 2, 3, 4, 5, 6, 7, 8, 9], [0, 9])])
def tb35_6.B6 : List Nat := [0, 0, 2, 0, 0, 24, 56, 126, 254, 511, 1023]
theorem tb35_6.tab6 : rtab .any (opsOf Try.f35 6) = tb35_6.T6 := by kernel_rfl
theorem tb35_6.bits6 : waitsOk tb35_6.T6.2 tb35_6.B6 = true := by kernel_rfl
set_option maxHeartbeats 8000000 in
set_option maxRecDepth 100000 in
theorem low_ref (w : World) (A : Option Addr) (n c : Nat) (AE : Option Addr) (m ce : Nat) (AP : Option Addr) (cp : Nat) (AQ : Option Addr) (cq : Nat) (AR : Option Addr) (nr cr : Nat) (pars : List Int) (rk : Nat → Nat) (hrk : Rk n pars rk) (hn : n ≤ 256) (v : Nat) (hv : v < n) (hp : RdI w AP pars) (hq : RdI w AQ (postsOf n pars)) :
    Calls Try.prog 35 #[cV A n c AE m ce AP n cp AQ n cq AR nr cr, .int .i64 (v : Int)] w fun e w' => e = .returned (.int .i64 (lowN pars v : Int)) ∧ Below w.heap.size w w' := by
  have hb : bel pars (n + 2) (v : Int) = some (bl pars (v : Int)) := bel_full hrk (.inr ⟨v, hv, rfl⟩)
  obtain ⟨_, _, h3, _⟩ := low_post hrk hv
  have hpv := (post_of hrk hv).2.2
  have hBL := fun (W : World) (hW : Below w.heap.size w W) => belowR_calls A n c AE m ce AP cp AQ n cq AR nr cr pars rk hrk (by omega) (n + 2) (v : Int) _ W hb (hp.below hW) (by omega)
  have hlen : (bl pars (v : Int)).length ≤ 256 := by omega
  have hlt := bl_rk hrk (v : Int) (.inr ⟨v, hv, rfl⟩)
  have hfin := fun m => LoM.fin (m := m) hrk hv
  obtain ⟨L, hL⟩ : ∃ L, bl pars (v : Int) = L := ⟨_, rfl⟩
  obtain ⟨lo, hlo⟩ : ∃ lo, lowN pars v = lo := ⟨_, rfl⟩
  rw [hL] at hBL hlen hlt hfin
  rw [hlo] at hfin ⊢
  unfold cV at hBL ⊢
  have HBL := Lib.hid hBL
  have HX := Lib.hid (And.intro hq (And.intro hlt hfin))
  obtain ⟨bq, hbq, qv⟩ := hq v _ (postsOf_at hv)
  subst hbq
  have HQV := Lib.hid qv
  clear hp hq hrk hBL hlt hfin hb h3 hL hlo qv
  go_enter Try.func35, Try.ntmps35
  go_upto_region 1 with (fail)
  refine gen_world (fun W => At W w.heap.size [.slice A n c, .slice AE m ce, .int .i64 0, .int .i64 0, .slice AP n cp, .slice (some ⟨bq, 0, none⟩) n cq, .slice AR nr cr] 30 ∧ Below w.heap.size w W) ?_ ?_
  · exact ⟨At.made rfl rfl, (Below.refl _ _).alloc (Nat.le_refl _) _⟩
  obtain ⟨gx, hgx⟩ : ∃ gx, w.heap.size = gx := ⟨_, rfl⟩
  rw [hgx]
  rintro w3 ⟨hat, hb⟩
  rw [← hgx] at hb
  have q0 := hat.cell 0 rfl
  have q1 := hat.cell 1 rfl
  have q2 := hat.cell 2 rfl
  have q3 := hat.cell 3 rfl
  have q4 := hat.cell 4 rfl
  have q5 := hat.cell 5 rfl
  have q6 := hat.cell 6 rfl
  have qv := keep_at hb HQV.out
  have v0 : (0 : Int) ≤ (v : Int) := by omega
  have v1 : (v : Int) < (n : Int) := by omega
  have v2 : (n : Int) ≤ 256 := by omega
  have HAT := Lib.hid hat
  have HB := Lib.hid hb
  clear hat hb hgx
  go_wp2_with fail
  refine (HBL.out _ HB.out).mono ?_
  clear HBL
  rintro e w4 ⟨v4, rfl, hO4⟩
  obtain ⟨Ao, co, rfl⟩ := Lw.own_slice hO4.r
  have HO := Lib.hid hO4.r
  have HAT4 := Lib.hid (HAT.out.below hO4.b HAT.out.lt)
  have HB4 := Lib.hid (HB.out.trans (hO4.b.mono HB.out.size))
  clear hO4 HAT HB q0 q1 q2 q3 q4 q5 q6 qv
  go_wp2_with fail
  go_loopg [5, 7] L.length (fun kq v5 v7 w' => ∃ i mm : Nat, v7 = .int .i64 (i : Int) ∧ v5 = .int .i64 (mm : Int) ∧ Hid (i + kq = L.length ∧ LoM pars v (L.take i) mm ∧ ∃ q, w' = w4.drewN q))
  case atStart => exact ⟨0, _, rfl, rfl, Lib.hid ⟨by omega, by rw [List.take_zero]; exact LoM.start _ _, 0, rfl⟩⟩
  case round =>
    obtain ⟨i, mm, rfl, rfl, hI⟩ := hrel
    obtain ⟨hik, hM, q, hw⟩ := hI.out
    clear hI
    rw [hw]
    have q5 : (w4.drewN q).cell? ⟨gx, 5, none⟩ = some (.slice (some ⟨bq, 0, none⟩) n cq) := HAT4.out.cell 5 rfl
    by_cases hi : i < L.length
    · obtain ⟨k1, rfl⟩ : ∃ k1, gk = k1 + 1 := ⟨gk - 1, by omega⟩
      obtain ⟨x, hx⟩ : ∃ x, L[i]? = some x := ⟨_, List.getElem?_eq_getElem hi⟩
      have hxn := (HX.out.2.1 x (List.mem_of_getElem? hx)).1
      obtain ⟨bo, rfl, _, hcc⟩ := cell_flat HO.out (by omega)
      have qo : (w4.drewN q).cell? ⟨bo, i, none⟩ = some (.int .i64 (x : Int)) := hcc i _ (Mem.ints_at _ (nums_at hx))
      obtain ⟨bq', hbq, qx'⟩ := (HX.out.1.below HB4.out) x _ (postsOf_at hxn)
      cases hbq
      have hN : LoM pars v (L.take (i + 1)) (min mm (postN pars x)) := by
        rw [List.take_add_one, hx]
        exact hM.next
      obtain ⟨px, hpx⟩ : ∃ px, postN pars x = px := ⟨_, rfl⟩
      rw [hpx] at qx' hN
      have qx : (w4.drewN q).cell? ⟨bq, x, none⟩ = some (.int .i64 (px : Int)) := qx'
      have HN := Lib.hid hN
      have e1 : min (mm : Int) (px : Int) = ((min mm px : Nat) : Int) := by omega
      have i0 : (0 : Int) ≤ (i : Int) := by omega
      have i1 : (i : Int) < (L.length : Int) := by omega
      have i2 : (L.length : Int) ≤ 256 := by omega
      have x0 : (0 : Int) ≤ (x : Int) := by omega
      have x1 : (x : Int) < (n : Int) := by omega
      clear hw hM hx hxn hcc qx' hN hpx hi
      go_upto_region 6 with (fail)
      refine start_ (n := 11) (S := fun w' => w'.cell? ⟨gx, 5, none⟩ = some (.slice (some ⟨bq, 0, none⟩) n cq) ∧ w'.cell? ⟨bo, i, none⟩ = some (.int .i64 (x : Int)) ∧ w'.cell? ⟨bq, x, none⟩ = some (.int .i64 (px : Int))) (ds := []) (bA 11 0) (by kernel_rfl) rfl rfl ⟨q5, qo, qx⟩ (fun hHeld => ?_)
      refine with_tabW tb35_6.tab6 tb35_6.bits6 (fun HT_ HW_ => ?_)
      refine pure_ (i := 0) (N := some 22) (v := ?_) (a' := ?_) (bA 11 1) rfl rfl (any_of HT_.out (by kernel_rfl)) (fun _ _ _ h => h) (Or.inl ⟨by rfl, ?_⟩) ?_ ?_
      rotate_left; · intro w'; go_simp; with_reducible rfl
      rotate_left; · simp only [Act.put, pA, pB, pC, pD, pE]; rfl
      refine pure_ (i := 1) (N := some 23) (v := ?_) (a' := ?_) (bA 11 3) rfl rfl (any_of HT_.out (by kernel_rfl)) (fun _ _ _ h => h) (Or.inl ⟨by rfl, ?_⟩) ?_ ?_
      rotate_left; · intro w'; go_simp; with_reducible rfl
      rotate_left; · simp only [Act.put, pA, pB, pC, pD, pE]; rfl
      refine pure_ (i := 3) (N := some 25) (v := ?_) (a' := ?_) (bA 11 11) rfl rfl (any_of HT_.out (by kernel_rfl)) (fun _ _ _ h => h) (Or.inl ⟨by rfl, ?_⟩) ?_ ?_
      rotate_left; · intro w'; go_simp; with_reducible rfl
      rotate_left; · simp only [Act.put, pA, pB, pC, pD, pE]; rfl
      refine pure_ (i := 4) (N := some 26) (v := ?_) (a' := ?_) (bA 11 27) rfl rfl (any_of HT_.out (by kernel_rfl)) (fun _ _ _ h => h) (Or.inl ⟨by rfl, ?_⟩) ?_ ?_
      rotate_left; · intro w'; go_simp; with_reducible rfl
      rotate_left; · simp only [Act.put, pA, pB, pC, pD, pE]; rfl
      refine pure_ (i := 5) (N := some 27) (v := ?_) (a' := ?_) (bA 11 59) rfl rfl (any_of HT_.out (by kernel_rfl)) (fun _ _ _ h => h) (Or.inl ⟨by rfl, ?_⟩) ?_ ?_
      rotate_left; · intro w'; go_simp; with_reducible rfl
      rotate_left; · simp only [Act.put, pA, pB, pC, pD, pE]; rfl
      refine take_ (i := 2) (N := some 24) (v := ?_) (a' := ?_) (bA 11 63) rfl rfl (take_ofW HT_.out HW_.out (by kernel_rfl)) (fun _ _ _ h => h) (Or.inl ⟨by rfl, ?_⟩) hHeld ?_ ?_
      rotate_left
      · rintro w' ⟨s0, s1, s2⟩
        go_simp; with_reducible rfl
      rotate_left; · simp only [Act.put, pA, pB, pC, pD, pE]; rfl
      refine take_ (i := 6) (N := some 28) (v := ?_) (a' := ?_) (bA 11 127) rfl rfl (take_ofW HT_.out HW_.out (by kernel_rfl)) (fun _ _ _ h => h) (Or.inl ⟨by rfl, ?_⟩) hHeld ?_ ?_
      rotate_left
      · rintro w' ⟨s0, s1, s2⟩
        go_simp; with_reducible rfl
      rotate_left; · simp only [Act.put, pA, pB, pC, pD, pE]; rfl
      refine pure_ (i := 7) (N := some 29) (v := ?_) (a' := ?_) (bA 11 255) rfl rfl (any_of HT_.out (by kernel_rfl)) (fun _ _ _ h => h) (Or.inl ⟨by rfl, ?_⟩) ?_ ?_
      rotate_left; · intro w'; go_simp; with_reducible rfl
      rotate_left; · simp only [Act.put, pA, pB, pC, pD, pE]; rfl
      refine take_ (i := 8) (N := some 30) (v := ?_) (a' := ?_) (bA 11 511) rfl rfl (take_ofW HT_.out HW_.out (by kernel_rfl)) (fun _ _ _ h => h) (Or.inl ⟨by rfl, ?_⟩) hHeld ?_ ?_
      rotate_left
      · rintro w' ⟨s0, s1, s2⟩
        go_simp; with_reducible rfl
      rotate_left; · simp only [Act.put, pA, pB, pC, pD, pE]; rfl
      refine pure_ (i := 9) (N := some 31) (v := ?_) (a' := ?_) (bA 11 1023) rfl rfl (any_of HT_.out (by kernel_rfl)) (fun _ _ _ h => h) (Or.inl ⟨by rfl, ?_⟩) ?_ ?_
      rotate_left; · intro w'; go_simp; with_reducible rfl
      rotate_left; · simp only [Act.put, pA, pB, pC, pD, pE]; rfl
      refine pure_ (i := 10) (N := some 5) (v := ?_) (a' := ?_) (bA 11 2047) rfl rfl (any_of HT_.out (by kernel_rfl)) (fun _ _ _ h => h) (Or.inl ⟨by rfl, ?_⟩) ?_ ?_
      rotate_left; · intro w'; go_simp; with_reducible rfl
      rotate_left; · simp only [Act.put, pA, pB, pC, pD, pE]; rfl
      refine done_ (done_of HT_.out (by kernel_rfl)) ?_
      clear hHeld HT_ HW_; clear q5 qo qx
      go_wp2
      go_roundg k1
      case measure => omega
      case rel => exact ⟨i + 1, min mm px, by go_num, by first | rfl | (rw [← e1]), Lib.hid ⟨by omega, HN.out, q + 1, rfl⟩⟩
    · obtain rfl : i = L.length := by omega
      rw [List.take_length] at hM
      have HM := Lib.hid (HX.out.2.2 mm hM)
      clear hw hM hik hi
      go_wp2
      go_ret
      exact ⟨by rw [HM.out]; rfl, Mem.Below.drN HB4.out q⟩
end Go.Proofs.Ytdohfjidnbhfnaa.Rb

/- brambleref11: Label. -/
namespace Go.Proofs.Ytdohfjidnbhfnaa.Rb
open Go Go.RowKit Go.Proofs.Ytdohfjidnbhfnaa.Mem Go.Proofs.Ytdohfjidnbhfnaa.Sl Go.Proofs.Ytdohfjidnbhfnaa.Scc Go.Proofs.Ytdohfjidnbhfnaa.Tj Go.Proofs.Ytdohfjidnbhfnaa.Lw Go.Proofs.Ytdohfjidnbhfnaa.Cv Go.Proofs.YtdohfjidnbhfnaaW.PrintWords Go.Proofs.YtdohfjidnbhfnaaW.PrintLast
attribute [local go_sem ↓] Go.wp_at_zero Go.wp_at_succ
set_option linter.unusedSimpArgs false
set_option linter.unusedVariables false

theorem canon_snoc : ∀ {l : List (Int × Int)} {b lo hi : Int}, Sp.Canon b l → (∀ r ∈ l, r.2 + 1 < lo) → b < lo → lo ≤ hi → Sp.Canon b (l ++ [(lo, hi)])
  | [], b, lo, hi, _, _, h1, h2 => ⟨h1, h2, trivial⟩
  | r :: l, b, lo, hi, h, ha, h1, h2 => ⟨h.1, h.2.1, canon_snoc h.2.2 (fun r' hr => ha r' (List.mem_cons_of_mem _ hr)) (ha r (by simp)) h2⟩
theorem canon_last : ∀ {l : List (Int × Int)} {b lo hi hi' : Int}, Sp.Canon b (l ++ [(lo, hi)]) → hi ≤ hi' → Sp.Canon b (l ++ [(lo, hi')])
  | [], b, lo, hi, hi', h, h1 => ⟨h.1, Int.le_trans h.2.1 h1, trivial⟩
  | r :: l, b, lo, hi, hi', h, h1 => ⟨h.1, h.2.1, canon_last h.2.2 h1⟩
def LabI (n : Nat) (post : Nat → Nat) (R : Nat → Bool) (k : Nat) (out : List (Int × Int)) : Prop :=
  Sp.Canon 0 out ∧ (∀ r ∈ out, r.2 ≤ (k : Int)) ∧ ∀ y : Int, Sp.Mem out y ↔ ∃ x, x < n ∧ R x = true ∧ y = (post x : Int) ∧ post x ≤ k
section
variable {n k : Nat} {post : Nat → Nat} {R : Nat → Bool} {out : List (Int × Int)}
theorem LabI.start (h : ∀ x, x < n → 1 ≤ post x) : LabI n post R 0 [] := ⟨trivial, fun r hr => by simp at hr, fun y => ⟨fun h => absurd h (Sp.mem_nil _), fun ⟨x, hx, _, _, h2⟩ => by have := h x hx; omega⟩⟩
theorem mem_snoc {l : List (Int × Int)} {a b y : Int} : Sp.Mem (l ++ [(a, b)]) y ↔ Sp.Mem l y ∨ (a ≤ y ∧ y ≤ b) := by
  unfold Sp.Mem
  constructor
  · rintro ⟨r, hr, h⟩
    rcases List.mem_append.1 hr with hr | hr
    · exact .inl ⟨r, hr, h⟩
    · have : r = (a, b) := by simpa using hr
      subst this
      exact .inr h
  · rintro (⟨r, hr, h⟩ | h)
    · exact ⟨r, List.mem_append_left _ hr, h⟩
    · exact ⟨(a, b), by simp, h⟩
theorem LabI.no (h : LabI n post R k out) (hinj : ∀ x y, x < n → y < n → post x = post y → x = y) {z : Nat} (hz : z < n) (hp : post z = k + 1) (hr : R z = false) : LabI n post R (k + 1) out := by
  refine ⟨h.1, fun r hr => by have := h.2.1 r hr; omega, fun y => ?_⟩
  rw [h.2.2 y]
  constructor
  · rintro ⟨x, a, b, c, d⟩
    exact ⟨x, a, b, c, by omega⟩
  · rintro ⟨x, a, b, c, d⟩
    refine ⟨x, a, b, c, ?_⟩
    rcases Nat.lt_or_ge k (post x) with g | g
    · have := hinj x z a hz (by omega)
      subst this
      rw [hr] at b
      cases b
    · exact g
theorem LabI.mem_up (h : LabI n post R k out) (hinj : ∀ x y, x < n → y < n → post x = post y → x = y) {z : Nat} (hz : z < n) (hp : post z = k + 1) (hr : R z = true) (y : Int) : (Sp.Mem out y ∨ y = (k : Int) + 1) ↔ ∃ x, x < n ∧ R x = true ∧ y = (post x : Int) ∧ post x ≤ k + 1 := by
  rw [h.2.2 y]
  constructor
  · rintro (⟨x, a, b, c, d⟩ | g)
    · exact ⟨x, a, b, c, by omega⟩
    · exact ⟨z, hz, hr, by omega, by omega⟩
  · rintro ⟨x, a, b, c, d⟩
    rcases Nat.lt_or_ge k (post x) with g | g
    · exact .inr (by omega)
    · exact .inl ⟨x, a, b, c, g⟩
theorem LabI.ext {l : List (Int × Int)} {a : Int} (h : LabI n post R k (l ++ [(a, (k : Int))])) (hinj : ∀ x y, x < n → y < n → post x = post y → x = y) {z : Nat} (hz : z < n) (hp : post z = k + 1) (hr : R z = true) : LabI n post R (k + 1) (l ++ [(a, (k : Int) + 1)]) := by
  have ha : a ≤ (k : Int) := (h.1.mem_low (a, (k : Int)) (by simp)).2
  refine ⟨canon_last h.1 (by omega), fun r hr => ?_, fun y => ?_⟩
  · rcases List.mem_append.1 hr with hr | hr
    · have := h.2.1 r (List.mem_append_left _ hr); omega
    · have : r = (a, (k : Int) + 1) := by simpa using hr
      subst this
      dsimp only
      omega
  · rw [← h.mem_up hinj hz hp hr y, mem_snoc, mem_snoc]
    constructor
    · rintro (g | g)
      · exact .inl (.inl g)
      · rcases Int.lt_or_le (k : Int) y with g2 | g2
        · exact .inr (by omega)
        · exact .inl (.inr ⟨g.1, g2⟩)
    · rintro ((g | g) | g)
      · exact .inl g
      · exact .inr ⟨g.1, by omega⟩
      · exact .inr ⟨by omega, by omega⟩
theorem LabI.push (h : LabI n post R k out) (hinj : ∀ x y, x < n → y < n → post x = post y → x = y) {z : Nat} (hz : z < n) (hp : post z = k + 1) (hr : R z = true) (hl : ∀ r ∈ out, r.2 ≠ (k : Int)) : LabI n post R (k + 1) (out ++ [((k : Int) + 1, (k : Int) + 1)]) := by
  refine ⟨canon_snoc h.1 (fun r hr => by have := h.2.1 r hr; have := hl r hr; omega) (by omega) (Int.le_refl _), fun r hr => ?_, fun y => ?_⟩
  · rcases List.mem_append.1 hr with hr | hr
    · have := h.2.1 r hr; omega
    · have : r = ((k : Int) + 1, (k : Int) + 1) := by simpa using hr
      subst this
      dsimp only
      omega
  · rw [← h.mem_up hinj hz hp hr y, mem_snoc]
    constructor
    · rintro (g | g)
      · exact .inl g
      · exact .inr (by omega)
    · rintro (g | g)
      · exact .inl g
      · exact .inr ⟨by omega, by omega⟩
theorem LabI.only {l : List (Int × Int)} {a b : Int} (h : LabI n post R k (l ++ [(a, b)])) (hb : b ≠ (k : Int)) : ∀ r ∈ l ++ [(a, b)], r.2 ≠ (k : Int) := by
  have key : ∀ {l : List (Int × Int)} {c a b : Int}, Sp.Canon c (l ++ [(a, b)]) → ∀ r ∈ l, r.2 < a := by
    intro l
    induction l with
    | nil => intro c a b _ r hr; simp at hr
    | cons r0 l ih =>
      intro c a b h r hr
      rcases List.mem_cons.1 hr with rfl | hr
      · have := (h.2.2.mem_low (a, b) (by simp)).1
        dsimp only at this
        omega
      · exact ih h.2.2 r hr
  intro r hr he
  rcases List.mem_append.1 hr with hr | hr
  · have h1 := key h.1 r hr
    have h2 := h.2.1 (a, b) (by simp)
    have h3 := (h.1.mem_low (a, b) (by simp)).2
    dsimp only at h2 h3
    omega
  · have : r = (a, b) := by simpa using hr
    subst this
    exact hb he
end
end Go.Proofs.Ytdohfjidnbhfnaa.Rb

/- brambleref11: Label, walked. -/
namespace Go.Proofs.Ytdohfjidnbhfnaa.Rb
open Go Go.RowKit Go.Proofs.Ytdohfjidnbhfnaa.Mem Go.Proofs.Ytdohfjidnbhfnaa.Sl Go.Proofs.Ytdohfjidnbhfnaa.Scc Go.Proofs.Ytdohfjidnbhfnaa.Tj Go.Proofs.Ytdohfjidnbhfnaa.Lw Go.Proofs.Ytdohfjidnbhfnaa.Cv Go.Proofs.YtdohfjidnbhfnaaW.PrintWords Go.Proofs.YtdohfjidnbhfnaaW.PrintLast
attribute [local go_sem ↓] Go.wp_at_zero Go.wp_at_succ
set_option linter.unusedSimpArgs false
set_option linter.unusedVariables false

theorem post_sur {n : Nat} {pars : List Int} {rk : Nat → Nat} (h : Rk n pars rk) {p : Nat} (h1 : 1 ≤ p) (h2 : p ≤ n) : ∃ x, x < n ∧ postN pars x = p := by
  have hl := order_len h
  have hx : (bl pars (-1))[p - 1]? = some ((bl pars (-1))[p - 1]'(by omega)) := List.getElem?_eq_getElem _
  refine ⟨_, (bl_rk h (-1) (.inl rfl) _ (List.mem_of_getElem? hx)).1, ?_⟩
  unfold postN
  rw [idx_at (bl_nodup h _ (.inl rfl)) hx]
  omega
theorem spans2_last (l : List (Int × Int)) (a b b' : Int) : (spans2 (l ++ [(a, b)])).set (l.length * 2 + 1) (.int .i64 b') = spans2 (l ++ [(a, b')]) := by
  rw [← spans2_snoc, ← spans2_snoc, List.set_append, if_neg (by rw [spans2_length]; omega), spans2_length, show l.length * 2 + 1 - l.length * 2 = 1 by omega]
  rfl
theorem snoc_of {l : List (Int × Int)} (h : l ≠ []) : ∃ l' a b, l = l' ++ [(a, b)] := by
  rcases List.eq_nil_or_concat l with rfl | ⟨l', ⟨a, b⟩, rfl⟩
  · exact absurd rfl h
  · exact ⟨l', a, b, by simp⟩
theorem rd_snoc {w : World} {A : Option Addr} {l : List (Int × Int)} {a b : Int} (h : RdA w A (l ++ [(a, b)])) : ∃ g, A = some ⟨g, 0, none⟩ ∧ w.cell? ⟨g, l.length * 2 + 1, none⟩ = some (.int .i64 b) := by
  obtain ⟨g, h1, _, h2⟩ := h l.length a b (by simp)
  exact ⟨g, h1, h2⟩

def tb34_5.T5 : Bool × List (List Nat × List Nat) := (true, [([], []), ([0], [0]), ([], []), ([1, 2], [1, 2]), ([3], [3]), ([], []), ([], []), ([5, 6], [5, 6]), ([4, 7], [4, 7]), ([8], [8]), ([9], [9])])
def tb34_5.B5 : List Nat := [0, 1, 0, 7, 15, 0, 0, 96, 255, 511, 1023]
theorem tb34_5.tab5 : rtab .any (opsOf Try.f34 5) = tb34_5.T5 := by kernel_rfl
theorem tb34_5.bits5 : waitsOk tb34_5.T5.2 tb34_5.B5 = true := by kernel_rfl
set_option maxHeartbeats 8000000 in
set_option maxRecDepth 100000 in
theorem label_ref (w : World) (A : Option Addr) (n c : Nat) (AE : Option Addr) (m ce : Nat) (AP : Option Addr) (np cp : Nat) (AQ : Option Addr) (cq : Nat) (AR : Option Addr) (cr : Nat) (pars : List Int) (rk : Nat → Nat) (E : Nat → Nat → Prop) (hrk : Rk n pars rk) (hn : n ≤ 256) (v : Nat) (hv : v < n) (hq : RdI w AQ (postsOf n pars)) (hr : RdC w AR n E) :
    Calls Try.prog 34 #[cV A n c AE m ce AP np cp AQ n cq AR n cr, .int .i64 (v : Int)] w fun e w' => ∃ vl out, e = .returned vl ∧ w'.ownsRow w.heap.size 55 2 vl out.length (spans2 out) ∧ LabI n (postN pars) (fun x => rB E v x) n out ∧ Below w.heap.size w w' := by
  obtain ⟨i2, hi2, hz2, hs2, hy2⟩ := info_parts info_span
  have hNO := fun (x : Nat) (hx : x < n) (W : World) (hW : Below w.heap.size w W) => node_ref W A n c AE m ce AP np cp AQ cq AR n cr pars rk hrk hn x hx (hq.below hW)
  obtain ⟨br, BR, cB, rfl, hrow, hcell⟩ := hr v hv
  unfold cV at hNO ⊢
  have hinj := fun x y hx hy he => post_inj (x := x) (y := y) hrk hx hy he
  have hst : LabI n (postN pars) (fun x => rB E v x) 0 [] := LabI.start fun x hx => (post_of hrk hx).2.1
  have HX := Lib.hid (And.intro hNO (And.intro hcell (And.intro hinj (fun p h1 h2 => post_sur (p := p) hrk h1 h2))))
  have HROW := Lib.hid hrow
  have v0 : (0 : Int) ≤ (v : Int) := by omega
  have v1 : (v : Int) < (n : Int) := by omega
  obtain ⟨P, hP⟩ : ∃ P, postN pars = P := ⟨_, rfl⟩
  rw [hP] at hst ⊢
  have HP := Lib.hid hP
  have HST := Lib.hid hst
  clear hNO hrow hcell hinj hst hP hrk hq hr
  go_enter Try.func34, Try.ntmps34
  go_wp2_with fail
  refine gen_loopw (fun W => At W w.heap.size [.slice A n c, .slice AE m ce, .int .i64 0, .int .i64 0, .slice AP np cp, .slice AQ n cq, .slice (some ⟨br, 0, none⟩) n cr] 30 ∧ Below w.heap.size w W) ?_ ?_
  · exact ⟨At.made rfl rfl, (Below.refl _ _).alloc (Nat.le_refl _) _⟩
  obtain ⟨gx, hgx⟩ : ∃ gx, w.heap.size = gx := ⟨_, rfl⟩
  rw [hgx]
  rintro w3 ⟨hat, hb⟩
  rw [← hgx] at hb
  have HAT0 := Lib.hid hat
  have HB0 := Lib.hid hb
  have HGX := Lib.hid hgx
  clear hat hb hgx
  go_loopg [5, 6] n (fun kq v5 v6 w' => ∃ p : Nat, v6 = .int .i64 ((p : Int) + 1) ∧ Hid (p + kq = n ∧ ∃ out, LabI n P (fun x => rB E v x) p out ∧ w'.ownsRow w.heap.size 55 2 v5 out.length (spans2 out) ∧ At w' gx [.slice A n c, .slice AE m ce, .int .i64 0, .int .i64 0, .slice AP np cp, .slice AQ n cq, .slice (some ⟨br, 0, none⟩) n cr] 30 ∧ Below w.heap.size w w'))
  case atStart => exact ⟨0, rfl, Lib.hid ⟨by omega, [], HST.out, World.ownsRow_nil _ _ _ _, HAT0.out, HB0.out⟩⟩
  case round =>
    clear HAT0 HB0 HST
    obtain ⟨p, rfl, hI⟩ := hrel
    obtain ⟨hpk, out, hlab, hown, hat, hb⟩ := hI.out
    clear hI
    have q5 := hat.cell 5 rfl
    have p2 : (n : Int) ≤ 256 := by omega
    have p0 : (0 : Int) ≤ (p : Int) := by omega
    by_cases hp : p < n
    · obtain ⟨k1, rfl⟩ : ∃ k1, gk = k1 + 1 := ⟨gk - 1, by omega⟩
      obtain ⟨x, hxn, hxp⟩ := HX.out.2.2.2 (p + 1) (by omega) (by omega)
      have p1 : (p : Int) < (n : Int) := by omega
      have hno : ∀ W, Below wr.heap.size wr W → Calls Try.prog 51 #[.agg #[.slice A n c, .slice AE m ce, .int .i64 0, .int .i64 0, .slice AP np cp, .slice AQ n cq, .slice (some ⟨br, 0, none⟩) n cr], .int .i64 ((p : Int) + 1)] W fun e w' => e = .returned (.int .i64 (x : Int)) ∧ Below W.heap.size W w' := fun W hW => by
        have h := HX.out.1 x hxn W (hb.trans (hW.mono hb.size))
        rw [hxp] at h
        exact h
      have x0 : (0 : Int) ≤ (x : Int) := by omega
      have x1 : (x : Int) < (n : Int) := by omega
      have q0 := hat.cell 0 rfl
      have q1 := hat.cell 1 rfl
      have q2 := hat.cell 2 rfl
      have q3 := hat.cell 3 rfl
      have q4 := hat.cell 4 rfl
      have q6 := hat.cell 6 rfl
      have qr := keep_at hb HROW.out
      have qx := keep_at hb (HX.out.2.1 x hxn)
      have hxP : P x = p + 1 := by rw [← HP.out]; exact hxp
      obtain ⟨rb, hrb⟩ : ∃ rb, rB E v x = rb := ⟨_, rfl⟩
      rw [hrb] at qx
      have HNO := Lib.hid hno
      have HLAB := Lib.hid (And.intro hlab (And.intro hxn (And.intro hxP hrb)))
      obtain ⟨Ao, co, rfl⟩ := Lw.own_slice hown
      have HR := Lib.hid hown
      have HAT := Lib.hid hat
      have HB := Lib.hid hb
      clear hno hlab hxn hxp hxP hrb hown hat hb hp
      go_upto_region 5 with (fail)
      refine start_ (n := 11) (S := fun w' => w'.cell? ⟨gx, 0, none⟩ = some (.slice A n c) ∧ w'.cell? ⟨gx, 1, none⟩ = some (.slice AE m ce) ∧ w'.cell? ⟨gx, 2, none⟩ = some (.int .i64 0) ∧ w'.cell? ⟨gx, 3, none⟩ = some (.int .i64 0) ∧ w'.cell? ⟨gx, 4, none⟩ = some (.slice AP np cp) ∧ w'.cell? ⟨gx, 5, none⟩ = some (.slice AQ n cq) ∧ w'.cell? ⟨gx, 6, none⟩ = some (.slice (some ⟨br, 0, none⟩) n cr) ∧ w'.cell? ⟨br, v, none⟩ = some (.slice (some ⟨BR, 0, none⟩) n cB) ∧ w'.cell? ⟨BR, x, none⟩ = some (.bool rb)) (ds := []) (bA 11 0) (by kernel_rfl) rfl rfl ⟨q0, q1, q2, q3, q4, q5, q6, qr, qx⟩ (fun hHeld => ?_)
      refine with_tabW tb34_5.tab5 tb34_5.bits5 (fun HT_ HW_ => ?_)
      refine pure_ (i := 0) (N := some 14) (v := ?_) (a' := ?_) (bA 11 1) rfl rfl (any_of HT_.out (by kernel_rfl)) (fun _ _ _ h => h) (Or.inl ⟨by rfl, ?_⟩) ?_ ?_
      rotate_left; · intro w'; go_simp; with_reducible rfl
      rotate_left; · simp only [Act.put, pA, pB, pC, pD, pE]; rfl
      refine pure_ (i := 2) (N := some 16) (v := ?_) (a' := ?_) (bA 11 5) rfl rfl (any_of HT_.out (by kernel_rfl)) (fun _ _ _ h => h) (Or.inl ⟨by rfl, ?_⟩) ?_ ?_
      rotate_left; · intro w'; go_simp; with_reducible rfl
      rotate_left; · simp only [Act.put, pA, pB, pC, pD, pE]; rfl
      refine pure_ (i := 6) (N := some 20) (v := ?_) (a' := ?_) (bA 11 69) rfl rfl (any_of HT_.out (by kernel_rfl)) (fun _ _ _ h => h) (Or.inl ⟨by rfl, ?_⟩) ?_ ?_
      rotate_left; · intro w'; go_simp; with_reducible rfl
      rotate_left; · simp only [Act.put, pA, pB, pC, pD, pE]; rfl
      refine take_ (i := 1) (N := some 15) (v := ?_) (a' := ?_) (bA 11 71) rfl rfl (take_ofW HT_.out HW_.out (by kernel_rfl)) (fun _ _ _ h => h) (Or.inl ⟨by rfl, ?_⟩) hHeld ?_ ?_
      rotate_left
      · rintro w' ⟨s0, s1, s2, s3, s4, s5, s6, s7, s8⟩
        go_simp; with_reducible rfl
      rotate_left; · simp only [Act.put, pA, pB, pC, pD, pE]; rfl
      refine pure_ (i := 3) (N := some 17) (v := ?_) (a' := ?_) (bA 11 79) rfl rfl (any_of HT_.out (by kernel_rfl)) (fun _ _ _ h => h) (Or.inl ⟨by rfl, ?_⟩) ?_ ?_
      rotate_left; · intro w'; go_simp; with_reducible rfl
      rotate_left; · simp only [Act.put, pA, pB, pC, pD, pE]; rfl
      refine take_ (i := 4) (N := some 18) (v := ?_) (a' := ?_) (bA 11 95) rfl rfl (take_ofW HT_.out HW_.out (by kernel_rfl)) (fun _ _ _ h => h) (Or.inl ⟨by rfl, ?_⟩) hHeld ?_ ?_
      rotate_left
      · rintro w' ⟨s0, s1, s2, s3, s4, s5, s6, s7, s8⟩
        go_simp; with_reducible rfl
      rotate_left; · simp only [Act.put, pA, pB, pC, pD, pE]; rfl
      refine take_ (i := 5) (N := some 19) (v := ?_) (a' := ?_) (bA 11 127) rfl rfl (take_ofW HT_.out HW_.out (by kernel_rfl)) (fun _ _ _ h => h) (Or.inl ⟨by rfl, ?_⟩) hHeld ?_ ?_
      rotate_left
      · rintro w' ⟨s0, s1, s2, s3, s4, s5, s6, s7, s8⟩
        go_simp; with_reducible rfl
      rotate_left; · simp only [Act.put, pA, pB, pC, pD, pE]; rfl
      refine one_ (i := 7) (N := some 21) (bA 11 255) rfl rfl (one_of HT_.out (by kernel_rfl)) (by decide) (fun K hK => ?_)
      refine goes_ Try.func51 (by kernel_rfl) rfl #[.agg #[.slice A n c, .slice AE m ce, .int .i64 0, .int .i64 0, .slice AP np cp, .slice AQ n cq, .slice (some ⟨br, 0, none⟩) n cr], .int .i64 ((p : Int) + 1)] (by rfl) rfl rfl (by simp only [List.map_toArray, List.map_cons, List.map_nil]; rfl) ?_
      with_reducible refine ((HNO.out wr.drew (Below.refl _ _).drew)).mono ?_
      rintro e wa ⟨rfl, hb_wa⟩
      refine ⟨_, rfl, ?_⟩
      refine hK.out _ _ ⟨(keep_at hb_wa (show (wr.drew).cell? _ = _ from q0)), (keep_at hb_wa (show (wr.drew).cell? _ = _ from q1)), (keep_at hb_wa (show (wr.drew).cell? _ = _ from q2)), (keep_at hb_wa (show (wr.drew).cell? _ = _ from q3)), (keep_at hb_wa (show (wr.drew).cell? _ = _ from q4)), (keep_at hb_wa (show (wr.drew).cell? _ = _ from q5)), (keep_at hb_wa (show (wr.drew).cell? _ = _ from q6)), (keep_at hb_wa (show (wr.drew).cell? _ = _ from qr)), (keep_at hb_wa (show (wr.drew).cell? _ = _ from qx))⟩ (fun hHeld => ?_)
      clear hK K
      refine norm_ (a' := ?_) ?_ ?_
      rotate_left
      · show Act.put _ (some 21) _ = _
        simp only [Act.put, pA, pB, pC, pD, pE]; rfl
      refine pure_ (i := 8) (N := some 22) (v := ?_) (a' := ?_) (bA 11 511) rfl rfl (any_of HT_.out (by kernel_rfl)) (fun _ _ _ h => h) (Or.inl ⟨by rfl, ?_⟩) ?_ ?_
      rotate_left; · intro w'; go_simp; with_reducible rfl
      rotate_left; · simp only [Act.put, pA, pB, pC, pD, pE]; rfl
      refine take_ (i := 9) (N := some 23) (v := ?_) (a' := ?_) (bA 11 1023) rfl rfl (take_ofW HT_.out HW_.out (by kernel_rfl)) (fun _ _ _ h => h) (Or.inl ⟨by rfl, ?_⟩) hHeld ?_ ?_
      rotate_left
      · rintro w' ⟨s0, s1, s2, s3, s4, s5, s6, s7, s8⟩
        go_simp; with_reducible rfl
      rotate_left; · simp only [Act.put, pA, pB, pC, pD, pE]; rfl
      refine pure_ (i := 10) (N := some 24) (v := ?_) (a' := ?_) (bA 11 2047) rfl rfl (any_of HT_.out (by kernel_rfl)) (fun _ _ _ h => h) (Or.inl ⟨by rfl, ?_⟩) ?_ ?_
      rotate_left; · intro w'; go_simp; with_reducible rfl
      rotate_left; · simp only [Act.put, pA, pB, pC, pD, pE]; rfl
      refine done_ (done_of HT_.out (by kernel_rfl)) ?_
      clear hHeld HT_ HW_
      refine gen_then (fun W => Below wr.heap.size wr W) ?_ ?_
      · exact Below.drewL hb_wa
      clear q0 q1 q2 q3 q4 q5 q6 qr qx HNO
      intro w5 hb5
      have hR5 := Lw.own_below HR.out hb5
      have hat5 := HAT.out.below hb5 HAT.out.lt
      have hB5 := HB.out.trans (hb5.mono HB.out.size)
      have HR := Lib.hid hR5
      have HAT := Lib.hid hat5
      have HB := Lib.hid hB5
      clear hR5 hat5 hB5 hb5
      have hinj := HX.out.2.2.1
      rw [HP.out] at hinj
      obtain ⟨hlab, hxn, hxP, hrb⟩ := HLAB.out
      clear HLAB
      cases rb with
      | false =>
        have HQ := Lib.hid (hlab.no hinj hxn hxP hrb)
        clear hlab hinj hxn hxP hrb
        go_wp2
        go_roundg k1
        case measure => omega
        case rel => exact ⟨p + 1, by go_num, Lib.hid ⟨by omega, out, HQ.out, HR.out, HAT.out, HB.out⟩⟩
      | true =>
        by_cases hnil : out = []
        · subst hnil
          have HQ := Lib.hid (hlab.push hinj hxn hxP hrb (fun r hr => by simp at hr))
          clear hlab hinj hxn hxP hrb
          rw [List.length_nil] at HR ⊢
          go_wp2_with ((at_builtin; (refine wpList_append_any rfl (.tmp 47) (.tmp 51) 52 rfl w.heap.size 55 i2 (.agg #[.int .i64 0, .int .i64 0]) 2 16 Try.underlying52 hi2 hz2 hs2 hy2 rfl (by omega) _ _ _ rfl (HR.out.alloc (.cells #[.int .i64 ((p : Int) + 1), .int .i64 ((p : Int) + 1)] 55)) _ rfl 1 [.int .i64 ((p : Int) + 1), .int .i64 ((p : Int) + 1)] (RdV.lit _ #[.int .i64 ((p : Int) + 1), .int .i64 ((p : Int) + 1)] 55 1 2 1 rfl (by simp [Value.oneCell'])) (by unfold maxLen; omega) (by omega) (by have := HB.out.size; simp; omega) ?_; intro v5 w5 ho hg hn; have hat5 := (HAT.out.al (o := (.cells #[.int .i64 ((p : Int) + 1), .int .i64 ((p : Int) + 1)] 55))).grown hg (own_off (HR.out.alloc (.cells #[.int .i64 ((p : Int) + 1), .int .i64 ((p : Int) + 1)] 55)) HAT.out.al (by decide)); have hb5 := (HB.out.alloc HB.out.size (.cells #[.int .i64 ((p : Int) + 1), .int .i64 ((p : Int) + 1)] 55)).grown hg (by simp; have := HB.out.size; omega) (fun k hk => (HR.out.lt k hk).1); have HR5 := Lib.hid ho; have HAT5 := Lib.hid hat5; have HB5 := Lib.hid hb5; clear ho hg hn hat5 hb5 HR HAT HB)))
          go_roundg k1
          case measure => omega
          case rel =>
            refine ⟨p + 1, by go_num, Lib.hid ⟨by omega, _, HQ.out, ?_, HAT5.out, HB5.out⟩⟩
            exact HR5.out
        · obtain ⟨l', a, b, rfl⟩ := snoc_of hnil
          obtain ⟨g, rfl, cg⟩ := rd_snoc (RdA.of_own (l := l' ++ [(a, b)]) HR.out).1
          have fg := HR.out.frozenAt (l'.length * 2 + 1)
          have hgb : w.heap.size ≤ g := (HR.out.lt g rfl).1
          have hgx2 : some gx ≠ some g := own_off HR.out HAT.out (by decide)
          have hln := Sp.canon_len (c := 256) hlab.1 (fun r hr => by have := hlab.2.1 r hr; omega) (by omega)
          obtain ⟨mm, hmm⟩ : ∃ mm, (l' ++ [(a, b)]).length = mm := ⟨_, rfl⟩
          obtain ⟨k, hk⟩ : ∃ k, l'.length = k := ⟨_, rfl⟩
          have hmk : mm = k + 1 := by rw [← hmm, ← hk]; simp
          rw [hmm] at HR hln ⊢
          rw [hk] at cg fg
          have m1 : (mm : Int) - 1 = (k : Int) := by omega
          have m2 : (mm : Int) > 0 := by omega
          have k0 : (0 : Int) ≤ (k : Int) := by omega
          have k1' : (k : Int) < (mm : Int) := by omega
          have m3 : (mm : Int) ≤ 256 := by omega
          have hps : (p : Int) + 1 - 1 = (p : Int) := by omega
          by_cases hbp : b = (p : Int)
          · subst hbp
            have HQ := Lib.hid (hlab.ext hinj hxn hxP hrb)
            have HKM := Lib.hid (And.intro hk (And.intro hmm (And.intro hgb hgx2)))
            clear hlab hinj hxn hxP hrb hnil hk hmm hmk hln hgb hgx2
            go_wp2
            go_roundg k1
            case measure => omega
            case rel =>
              obtain ⟨hk, hmm, hgb, hgx2⟩ := HKM.out
              refine ⟨p + 1, by go_num, Lib.hid ⟨by omega, l' ++ [(a, (p : Int) + 1)], HQ.out, ?_, HAT.out.off (fun e => hgx2 (by rw [e])), HB.out.setCell hgb _⟩⟩
              have h1 := (HR.out.stored (k * 2 + 1) (.int .i64 ((p : Int) + 1))).1
              rw [← hk, spans2_last] at h1
              have h2 : (l' ++ [(a, (p : Int) + 1)]).length = mm := by rw [← hmm]; simp
              rw [h2, ← hk]
              exact h1
          · have hne := hlab.only hbp
            have HQ := Lib.hid (hlab.push hinj hxn hxP hrb hne)
            have e1 : (b == (p : Int)) = false := beq_eq_false_iff_ne.2 hbp
            have HMM := Lib.hid hmm
            clear hlab hinj hxn hxP hrb hnil hk hmm hmk hgb hgx2 hbp hne
            go_wp2_with ((at_builtin; (refine wpList_append_any rfl (.tmp 47) (.tmp 51) 52 rfl w.heap.size 55 i2 (.agg #[.int .i64 0, .int .i64 0]) 2 16 Try.underlying52 hi2 hz2 hs2 hy2 rfl (by omega) _ _ _ rfl (HR.out.alloc (.cells #[.int .i64 ((p : Int) + 1), .int .i64 ((p : Int) + 1)] 55)) _ rfl 1 [.int .i64 ((p : Int) + 1), .int .i64 ((p : Int) + 1)] (RdV.lit _ #[.int .i64 ((p : Int) + 1), .int .i64 ((p : Int) + 1)] 55 1 2 1 rfl (by simp [Value.oneCell'])) (by unfold maxLen; omega) (by omega) (by have := HB.out.size; simp; omega) ?_; intro v5 w5 ho hg hn; have hat5 := (HAT.out.al (o := (.cells #[.int .i64 ((p : Int) + 1), .int .i64 ((p : Int) + 1)] 55))).grown hg (own_off (HR.out.alloc (.cells #[.int .i64 ((p : Int) + 1), .int .i64 ((p : Int) + 1)] 55)) HAT.out.al (by decide)); have hb5 := (HB.out.alloc HB.out.size (.cells #[.int .i64 ((p : Int) + 1), .int .i64 ((p : Int) + 1)] 55)).grown hg (by simp; have := HB.out.size; omega) (fun k hk => (HR.out.lt k hk).1); have HR5 := Lib.hid ho; have HAT5 := Lib.hid hat5; have HB5 := Lib.hid hb5; clear ho hg hn hat5 hb5 HR HAT HB)))
            go_roundg k1
            case measure => omega
            case rel =>
              refine ⟨p + 1, by go_num, Lib.hid ⟨by omega, _, HQ.out, ?_, HAT5.out, HB5.out⟩⟩
              rw [List.length_append, HMM.out]
              have h1 := HR5.out
              rw [show ((p : Int) + 1, (p : Int) + 1) = (((p : Int) + 1, (p : Int) + 1) : Int × Int) from rfl, ← spans2_snoc]
              exact h1
    · obtain rfl : p = n := by omega
      have HQ := Lib.hid (And.intro hlab (And.intro hown hb))
      clear hlab hown hat hb hpk hp
      go_wp2
      go_ret
      exact ⟨_, out, rfl, HQ.out.2.1, HQ.out.1, HQ.out.2.2⟩
end Go.Proofs.Ytdohfjidnbhfnaa.Rb
