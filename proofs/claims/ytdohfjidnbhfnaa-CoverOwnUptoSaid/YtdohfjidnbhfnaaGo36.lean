/- brambleref11: SameSpans, walked. -/
import Derived.Test.YtdohfjidnbhfnaaGo35
import Derived.Test.YtdohfjidnbhfnaaGo34
namespace Go.Proofs.Ytdohfjidnbhfnaa.Rb
open Go Go.RowKit Go.Proofs.Ytdohfjidnbhfnaa.Mem Go.Proofs.Ytdohfjidnbhfnaa.Sl Go.Proofs.Ytdohfjidnbhfnaa.Scc Go.Proofs.Ytdohfjidnbhfnaa.Tj Go.Proofs.Ytdohfjidnbhfnaa.Lw Go.Proofs.Ytdohfjidnbhfnaa.Cv Go.Proofs.YtdohfjidnbhfnaaW.PrintWords Go.Proofs.YtdohfjidnbhfnaaW.PrintLast
attribute [local go_sem ↓] Go.wp_at_zero Go.wp_at_succ
set_option linter.unusedSimpArgs false
set_option linter.unusedVariables false

def tb36_6.T6 : Bool × List (List Nat × List Nat) := (true, [([], []), ([], []), ([0, 1], [0, 1]), ([2], [2]), ([], []), ([], []), ([4, 5], [4, 5]), ([6], [6]), ([3, 7], [3, 7])])
def tb36_6.B6 : List Nat := [0, 0, 3, 7, 0, 0, 48, 112, 255]
theorem tb36_6.tab6 : rtab .any (opsOf Try.f36 6) = tb36_6.T6 := by kernel_rfl
theorem tb36_6.bits6 : waitsOk tb36_6.T6.2 tb36_6.B6 = true := by kernel_rfl
set_option maxHeartbeats 4000000 in
theorem samespans_calls (w : World) (A B : Option Addr) (ca cb : Nat) (l : List (Int × Int)) (ha : RdA w A l) (hb : RdA w B l) (hl : l.length ≤ 1000) :
    Calls Try.prog 36 #[.slice A l.length ca, .slice B l.length cb] w fun e w' => e = .returned (.bool true) ∧ Below w.heap.size w w' := by
  have HX := Lib.hid (And.intro ha hb)
  obtain ⟨n, hn⟩ : ∃ n, l.length = n := ⟨_, rfl⟩
  rw [hn] at hl ⊢
  have HN := Lib.hid hn
  clear ha hb hn
  go_enter Try.func36, Try.ntmps36
  go_wp2_with fail
  go_loopg [13] n (fun kq v13 w' => ∃ i : Nat, v13 = .int .i64 (i : Int) ∧ Hid (i + kq = n ∧ ∃ q, w' = w.drewN q))
  case atStart => exact ⟨0, rfl, Lib.hid ⟨by omega, 0, rfl⟩⟩
  case round =>
    obtain ⟨i, rfl, hI⟩ := hrel
    obtain ⟨hik, q, rfl⟩ := hI.out
    clear hI
    by_cases hi : i < n
    · obtain ⟨k1, rfl⟩ : ∃ k1, gk = k1 + 1 := ⟨gk - 1, by omega⟩
      obtain ⟨⟨u, v⟩, hx⟩ : ∃ x, l[i]? = some x := ⟨_, List.getElem?_eq_getElem (by rw [HN.out]; exact hi)⟩
      obtain ⟨b1, rfl, a0', a1'⟩ := HX.out.1 i u v hx
      obtain ⟨b2, rfl, c0', c1'⟩ := HX.out.2 i u v hx
      have a0 : (w.drewN q).cell? ⟨b1, i * 2, none⟩ = some (.int .i64 u) := a0'
      have a1 : (w.drewN q).cell? ⟨b1, i * 2 + 1, none⟩ = some (.int .i64 v) := a1'
      have c0 : (w.drewN q).cell? ⟨b2, i * 2, none⟩ = some (.int .i64 u) := c0'
      have c1 : (w.drewN q).cell? ⟨b2, i * 2 + 1, none⟩ = some (.int .i64 v) := c1'
      have i0 : (0 : Int) ≤ (i : Int) := by omega
      have i1 : (i : Int) < (n : Int) := by omega
      have i2 : (n : Int) ≤ 1000 := by omega
      clear a0' a1' c0' c1' hx hi
      go_upto_region 6 with (fail)
      refine start_ (n := 9) (S := fun w' => w'.cell? ⟨b1, i * 2, none⟩ = some (.int .i64 u) ∧ w'.cell? ⟨b1, i * 2 + 1, none⟩ = some (.int .i64 v) ∧ w'.cell? ⟨b2, i * 2, none⟩ = some (.int .i64 u) ∧ w'.cell? ⟨b2, i * 2 + 1, none⟩ = some (.int .i64 v)) (ds := []) (bA 9 0) (by kernel_rfl) rfl rfl ⟨a0, a1, c0, c1⟩ (fun hHeld => ?_)
      refine with_tabW tb36_6.tab6 tb36_6.bits6 (fun HT_ HW_ => ?_)
      refine pure_ (i := 0) (N := some 16) (v := ?_) (a' := ?_) (bA 9 1) rfl rfl (any_of HT_.out (by kernel_rfl)) (fun _ _ _ h => h) (Or.inl ⟨by rfl, ?_⟩) ?_ ?_
      rotate_left; · intro w'; go_simp; with_reducible rfl
      rotate_left; · simp only [Act.put, pA, pB, pC, pD, pE]; rfl
      refine pure_ (i := 1) (N := some 17) (v := ?_) (a' := ?_) (bA 9 3) rfl rfl (any_of HT_.out (by kernel_rfl)) (fun _ _ _ h => h) (Or.inl ⟨by rfl, ?_⟩) ?_ ?_
      rotate_left; · intro w'; go_simp; with_reducible rfl
      rotate_left; · simp only [Act.put, pA, pB, pC, pD, pE]; rfl
      refine pure_ (i := 2) (N := some 18) (v := ?_) (a' := ?_) (bA 9 7) rfl rfl (any_of HT_.out (by kernel_rfl)) (fun _ _ _ h => h) (Or.inl ⟨by rfl, ?_⟩) ?_ ?_
      rotate_left; · intro w'; go_simp; with_reducible rfl
      rotate_left; · simp only [Act.put, pA, pB, pC, pD, pE]; rfl
      refine pure_ (i := 4) (N := some 20) (v := ?_) (a' := ?_) (bA 9 23) rfl rfl (any_of HT_.out (by kernel_rfl)) (fun _ _ _ h => h) (Or.inl ⟨by rfl, ?_⟩) ?_ ?_
      rotate_left; · intro w'; go_simp; with_reducible rfl
      rotate_left; · simp only [Act.put, pA, pB, pC, pD, pE]; rfl
      refine pure_ (i := 5) (N := some 21) (v := ?_) (a' := ?_) (bA 9 55) rfl rfl (any_of HT_.out (by kernel_rfl)) (fun _ _ _ h => h) (Or.inl ⟨by rfl, ?_⟩) ?_ ?_
      rotate_left; · intro w'; go_simp; with_reducible rfl
      rotate_left; · simp only [Act.put, pA, pB, pC, pD, pE]; rfl
      refine pure_ (i := 6) (N := some 22) (v := ?_) (a' := ?_) (bA 9 119) rfl rfl (any_of HT_.out (by kernel_rfl)) (fun _ _ _ h => h) (Or.inl ⟨by rfl, ?_⟩) ?_ ?_
      rotate_left; · intro w'; go_simp; with_reducible rfl
      rotate_left; · simp only [Act.put, pA, pB, pC, pD, pE]; rfl
      refine take_ (i := 3) (N := some 19) (v := ?_) (a' := ?_) (bA 9 127) rfl rfl (take_ofW HT_.out HW_.out (by kernel_rfl)) (fun _ _ _ h => h) (Or.inl ⟨by rfl, ?_⟩) hHeld ?_ ?_
      rotate_left
      · rintro w' ⟨s0, s1, s2, s3⟩
        go_simp; with_reducible rfl
      rotate_left; · simp only [Act.put, pA, pB, pC, pD, pE]; rfl
      refine take_ (i := 7) (N := some 23) (v := ?_) (a' := ?_) (bA 9 255) rfl rfl (take_ofW HT_.out HW_.out (by kernel_rfl)) (fun _ _ _ h => h) (Or.inl ⟨by rfl, ?_⟩) hHeld ?_ ?_
      rotate_left
      · rintro w' ⟨s0, s1, s2, s3⟩
        go_simp; with_reducible rfl
      rotate_left; · simp only [Act.put, pA, pB, pC, pD, pE]; rfl
      refine pure_ (i := 8) (N := some 24) (v := ?_) (a' := ?_) (bA 9 511) rfl rfl (any_of HT_.out (by kernel_rfl)) (fun _ _ _ h => h) (Or.inl ⟨by rfl, ?_⟩) ?_ ?_
      rotate_left; · intro w'; go_simp; with_reducible rfl
      rotate_left; · simp only [Act.put, pA, pB, pC, pD, pE]; rfl
      refine done_ (done_of HT_.out (by kernel_rfl)) ?_
      clear hHeld HT_ HW_; clear a0 a1 c0 c1
      go_wp2
      go_roundg k1
      case measure => omega
      case rel => exact ⟨i + 1, by go_num, Lib.hid ⟨by omega, q + 1, rfl⟩⟩
    · obtain rfl : n = i := by omega
      clear hi hik
      go_wp2
      go_ret
      exact ⟨rfl, Mem.Below.drN (Below.refl _ _) q⟩
end Go.Proofs.Ytdohfjidnbhfnaa.Rb

/- The laws of cover: what a cover is known to be. -/
namespace Go.Proofs.Ytdohfjidnbhfnaa.Lc
open Go Go.RowKit Go.Proofs.Ytdohfjidnbhfnaa.Mem Go.Proofs.Ytdohfjidnbhfnaa.Sl Go.Proofs.Ytdohfjidnbhfnaa.Scc Go.Proofs.Ytdohfjidnbhfnaa.Tj Go.Proofs.Ytdohfjidnbhfnaa.Lw Go.Proofs.Ytdohfjidnbhfnaa.Cv Go.Proofs.Ytdohfjidnbhfnaa.Rb Go.Proofs.YtdohfjidnbhfnaaW.PrintWords Go.Proofs.YtdohfjidnbhfnaaW.PrintLast
attribute [local go_sem ↓] Go.wp_at_zero Go.wp_at_succ
set_option linter.unusedSimpArgs false
set_option linter.unusedVariables false

structure Kn (w0 w : World) (gc n : Nat) (a0 arcs : List (Int × Int)) (gn ga : Nat) (nd : List Nd) (al : List Int) (L : Nat → List (Int × Int)) (rk : Nat → Nat) : Prop where
  c : Cov w0 w gc n a0 arcs gn ga nd al L
  r : Rk n (parsOf n a0) rk
  le : n ≤ 256
  a : Acy n arcs
  g0 : Cv.Good n a0
  sub : ∀ p ∈ a0, p ∈ arcs

def Up (n : Nat) (arcs : List (Int × Int)) : Prop := ∀ p ∈ arcs, 0 ≤ p.1 ∧ p.1 < p.2 ∧ p.2 < n
theorem Up.good {n : Nat} {arcs : List (Int × Int)} (h : Up n arcs) : Cv.Good n arcs := fun p hp => by have := h p hp; omega
theorem Up.le {n : Nat} {arcs : List (Int × Int)} (h : Up n arcs) {x y : Nat} (hr : Rch (EA arcs) x y) : x ≤ y := by
  induction hr with
  | refl => exact Nat.le_refl _
  | step _ he ih =>
    have := h _ he
    dsimp only at this
    omega
theorem Up.acy {n : Nat} {arcs : List (Int × Int)} (h : Up n arcs) : Acy n arcs :=
  ⟨h.good, fun x y _ _ r1 r2 => Nat.le_antisymm (h.le r1) (h.le r2), fun u he => by have := h _ he; dsimp only at this; omega⟩

theorem rch_add {arcs : List (Int × Int)} {u v : Nat} {x y : Nat} (h : Rch (EA (arcs ++ [((u : Int), (v : Int))])) x y) : Rch (EA arcs) x y ∨ (Rch (EA arcs) x u ∧ Rch (EA arcs) v y) := by
  induction h with
  | refl => exact .inl (.refl _)
  | step _ he ih =>
    rcases List.mem_append.1 he with he | he
    · rcases ih with h1 | ⟨h1, h2⟩
      · exact .inl (.step h1 he)
      · exact .inr ⟨h1, .step h2 he⟩
    · simp only [List.mem_singleton, Prod.mk.injEq] at he
      have e1 := Int.ofNat.inj he.1
      have e2 := Int.ofNat.inj he.2
      subst e1 e2
      rcases ih with h1 | ⟨h1, h2⟩
      · exact .inr ⟨h1, .refl _⟩
      · exact .inr ⟨h1, .refl _⟩
theorem rch_mono {E E' : Nat → Nat → Prop} (h : ∀ a b, E a b → E' a b) {x y : Nat} (hr : Rch E x y) : Rch E' x y := by
  induction hr with
  | refl => exact .refl _
  | step _ he ih => exact .step ih (h _ _ he)
theorem ea_app {arcs more : List (Int × Int)} (a b : Nat) (h : EA arcs a b) : EA (arcs ++ more) a b := List.mem_append_left _ h
theorem rch_iff {arcs : List (Int × Int)} {u v : Nat} {x y : Nat} : Rch (EA (arcs ++ [((u : Int), (v : Int))])) x y ↔ Rch (EA arcs) x y ∨ (Rch (EA arcs) x u ∧ Rch (EA arcs) v y) := by
  refine ⟨rch_add, ?_⟩
  rintro (h | ⟨h1, h2⟩)
  · exact rch_mono ea_app h
  · exact ((rch_mono ea_app h1).trans (.one (List.mem_append_right _ (by simp)))).trans (rch_mono ea_app h2)
theorem Acy.add {n : Nat} {arcs : List (Int × Int)} (h : Acy n arcs) {u v : Nat} (hu : u < n) (hv : v < n) (hr : ¬ Rch (EA arcs) v u) : Acy n (arcs ++ [((u : Int), (v : Int))]) := by
  refine ⟨fun p hp => ?_, fun x y hx hy r1 r2 => ?_, fun z hz => ?_⟩
  · rcases List.mem_append.1 hp with hp | hp
    · exact h.good p hp
    · simp only [List.mem_singleton] at hp
      subst hp
      dsimp only
      omega
  · rw [rch_iff] at r1 r2
    rcases r1 with r1 | ⟨a1, a2⟩ <;> rcases r2 with r2 | ⟨b1, b2⟩
    · exact h.anti x y hx hy r1 r2
    · exact absurd ((b2.trans r1).trans b1) hr
    · exact absurd ((a2.trans r2).trans a1) hr
    · exact absurd (a2.trans b1) hr
  · rcases List.mem_append.1 hz with hz | hz
    · exact h.self z hz
    · simp only [List.mem_singleton, Prod.mk.injEq] at hz
      have e1 := Int.ofNat.inj hz.1
      have e2 := Int.ofNat.inj hz.2
      subst e1 e2
      exact hr (.refl _)

section
variable {w0 w w' : World} {gc n gn ga : Nat} {a0 arcs : List (Int × Int)} {nd : List Nd} {al : List Int} {L : Nat → List (Int × Int)} {rk : Nat → Nat}
theorem Cov.below (h : Cov w0 w gc n a0 arcs gn ga nd al L) (hb : Below w.heap.size w w') : Cov w0 w' gc n a0 arcs gn ga nd al L :=
  ⟨⟨h.c.hc.below hb h.c.hc.lt, h.c.hn.below hb h.c.hn.lt, h.c.ha.below hb h.c.ha.lt, h.c.ln, h.c.la⟩, h.ok, ⟨fun v hv hs => by
    obtain ⟨x, g, e1, e2, e3, e4, e5⟩ := h.ls.sets v hv hs
    exact ⟨x, g, e1, e2, e3, e4.below hb, e5⟩, h.ls.inj⟩, h.al, h.g1, h.g2, h.g3⟩
theorem Kn.below (h : Kn w0 w gc n a0 arcs gn ga nd al L rk) (hb : Below w.heap.size w w') : Kn w0 w' gc n a0 arcs gn ga nd al L rk := ⟨Cov.below h.c hb, h.r, h.le, h.a, h.g0, h.sub⟩
theorem Kn.lt (h : Kn w0 w gc n a0 arcs gn ga nd al L rk) {v : Nat} (hv : v < n) : ∃ x, nd[v]? = some x ∧ x.par = (parsOf n a0).getD v 0 ∧ x.post = (postN (parsOf n a0) v : Int) ∧ x.low = (lowN (parsOf n a0) v : Int) := by
  have hx : nd[v]? = some (nd[v]'(by rw [h.c.c.ln]; exact hv)) := List.getElem?_eq_getElem _
  exact ⟨_, hx, h.c.ok.2 v _ hx⟩
theorem Kn.lab (h : Kn w0 w gc n a0 arcs gn ga nd al L rk) : LabS w nd ((List.range n).map L) := by
  have hat : ∀ {v : Nat} {l : List (Int × Int)}, ((List.range n).map L)[v]? = some l → v < n ∧ l = L v := fun {v l} hl => by
    have hv : v < n := by simpa using (List.getElem?_eq_some_iff.1 hl).1
    rw [List.getElem?_map, List.getElem?_range hv] at hl
    exact ⟨hv, (Option.some.inj hl).symm⟩
  have hlt : ∀ {v : Nat} {x : Nd}, nd[v]? = some x → v < n := fun {v x} hx => by
    have := (List.getElem?_eq_some_iff.1 hx).1
    rw [h.c.c.ln] at this
    exact this
  refine ⟨by simp [h.c.c.ln], fun v x l hx hl => ?_, fun l hl => ?_, fun v v' x x' g hx hx' e1 e2 => h.c.ls.inj v v' x x' g (hlt hx) (hlt hx') trivial trivial hx hx' e1 e2⟩
  · obtain ⟨hv, rfl⟩ := hat hl
    obtain ⟨x', g, e1, e2, e3, e4, e5⟩ := h.c.ls.sets v hv trivial
    rw [hx] at e1
    cases e1
    exact ⟨g, e2, e4⟩
  · obtain ⟨v, hv, rfl⟩ := List.mem_map.1 hl
    obtain ⟨x', g, e1, e2, e3, e4, e5⟩ := h.c.ls.sets v (by simpa using hv) trivial
    exact e5.1
theorem Kn.labOk (h : Kn w0 w gc n a0 arcs gn ga nd al L rk) {v : Nat} (hv : v < n) : LabOk n arcs (postN (parsOf n a0)) v (L v) := by
  obtain ⟨x', g, e1, e2, e3, e4, e5⟩ := h.c.ls.sets v hv trivial
  exact e5
theorem Kn.mem (h : Kn w0 w gc n a0 arcs gn ga nd al L rk) {v x : Nat} (hv : v < n) (hx : x < n) : Sp.Mem (L v) (postN (parsOf n a0) x : Int) ↔ Rch (EA arcs) v x := by
  rw [(h.labOk hv).2]
  constructor
  · rintro ⟨y, hy, hr, he⟩
    rw [post_inj h.r hx hy (Int.ofNat.inj he)]
    exact hr
  · exact fun hr => ⟨x, hx, hr, rfl⟩
theorem Kn.holds (h : Kn w0 w gc n a0 arcs gn ga nd al L rk) {v x : Nat} (hv : v < n) (hx : x < n) : Sp.holdsB (L v) (postN (parsOf n a0) x : Int) (postN (parsOf n a0) x : Int) = rB (EA arcs) v x := by
  rw [Bool.eq_iff_iff, Sp.holds_one (h.labOk hv).1.1, h.mem hv hx, rB_iff]
theorem Kn.runs (h : Kn w0 w gc n a0 arcs gn ga nd al L rk) {v : Nat} (hv : v < n) : (L v).length ≤ 256 := by
  have hk := h.labOk hv
  have := Sp.canon_len (c := 256) hk.1.1 (fun r hr => by
    obtain ⟨h1, h2, h3⟩ := hk.1.at hr
    obtain ⟨x, hx, _, he⟩ := (hk.2 r.2).1 ⟨r, hr, h2, Int.le_refl _⟩
    have := (post_of h.r hx).2.2
    have := h.le
    omega) (by omega)
  omega

theorem Kn.len_ (h : Kn w0 w gc n a0 arcs gn ga nd al L rk) : Calls Try.prog 13 #[.pointer (some ⟨gc, 0, none⟩)] w fun e w' => e = .returned (.int .i64 n) ∧ w' = w := len_calls h.c.c
theorem Kn.par_ (h : Kn w0 w gc n a0 arcs gn ga nd al L rk) {v : Nat} (hv : v < n) : Calls Try.prog 21 #[.pointer (some ⟨gc, 0, none⟩), .int .i64 v] w fun e w' => e = .returned (.int .i64 ((parsOf n a0).getD v 0)) ∧ w' = w := by
  obtain ⟨x, hx, e1, e2, e3⟩ := h.lt hv
  exact e1 ▸ par_calls h.c.c v x hx (by have := h.le; omega)
theorem Kn.post_ (h : Kn w0 w gc n a0 arcs gn ga nd al L rk) {v : Nat} (hv : v < n) : Calls Try.prog 20 #[.pointer (some ⟨gc, 0, none⟩), .int .i64 v] w fun e w' => e = .returned (.int .i64 (postN (parsOf n a0) v : Int)) ∧ w' = w := by
  obtain ⟨x, hx, e1, e2, e3⟩ := h.lt hv
  exact e2 ▸ post_calls h.c.c v x hx (by have := h.le; omega)
theorem Kn.low_ (h : Kn w0 w gc n a0 arcs gn ga nd al L rk) {v : Nat} (hv : v < n) : Calls Try.prog 19 #[.pointer (some ⟨gc, 0, none⟩), .int .i64 v] w fun e w' => e = .returned (.int .i64 (lowN (parsOf n a0) v : Int)) ∧ w' = w := by
  obtain ⟨x, hx, e1, e2, e3⟩ := h.lt hv
  exact e3 ▸ low_calls h.c.c v x hx (by have := h.le; omega)
theorem Kn.node_ (h : Kn w0 w gc n a0 arcs gn ga nd al L rk) {v : Nat} (hv : v < n) : Calls Try.prog 22 #[.pointer (some ⟨gc, 0, none⟩), .int .i64 (postN (parsOf n a0) v : Int)] w fun e w' => e = .returned (.int .i64 v) ∧ w' = w :=
  node_calls h.c.c _ _ (h.c.al v hv) (post_of h.r hv).2.1 (by have := h.le; omega)
theorem Kn.reaches_ (h : Kn w0 w gc n a0 arcs gn ga nd al L rk) {u v : Nat} (hu : u < n) (hv : v < n) : Calls Try.prog 14 #[.pointer (some ⟨gc, 0, none⟩), .int .i64 u, .int .i64 v] w fun e w' => e = .returned (.bool (rB (EA arcs) u v)) ∧ Below w.heap.size w w' := by
  obtain ⟨y, hy, e1, e2, e3⟩ := h.lt hv
  obtain ⟨x, g, f1, f2, f3, f4, f5⟩ := h.c.ls.sets u hu trivial
  have hp := (post_of h.r hv).2
  have := h.le
  have hc := reaches_calls h.c.c u v g x y (L u) (by omega) f1 hy f2 f4 f5.1 (by rw [e2]; omega)
  rw [e2, h.holds hu hv] at hc
  exact hc
theorem Kn.size_ (h : Kn w0 w gc n a0 arcs gn ga nd al L rk) : Calls Try.prog 23 #[.pointer (some ⟨gc, 0, none⟩)] w fun e w' => e = .returned (.int .i64 (((((List.range n).map L).map List.length).sum : Nat) : Int)) ∧ Below w.heap.size w w' :=
  size_calls h.c.c _ (by have := h.le; omega) (by simp) h.lab.sets (fun l hl => by
    obtain ⟨v, hv, rfl⟩ := List.mem_map.1 hl
    have := h.runs (v := v) (by simpa using hv)
    omega)
theorem Kn.label_ (h : Kn w0 w gc n a0 arcs gn ga nd al L rk) {v : Nat} (hv : v < n) : Calls Try.prog 17 #[.pointer (some ⟨gc, 0, none⟩), .int .i64 v] w fun e w' => ∃ v', e = .returned v' ∧ w'.ownsRow w.heap.size 55 2 v' (L v).length (spans2 (L v)) ∧ Below w.heap.size w w' := by
  obtain ⟨x, g, f1, f2, f3, f4, f5⟩ := h.c.ls.sets v hv trivial
  exact label_calls h.c.c v g x (L v) (by have := h.le; omega) f1 f2 f4 f5.1

end

theorem build_kn (w : World) (n : Nat) (Aa : Option Addr) (ca : Nat) (arcs : List (Int × Int)) (ha : RdA w Aa arcs) (hn : n ≤ 256) (hm : arcs.length ≤ 100000) (hac : Acy n arcs) :
    Calls Try.prog 12 #[.int .i64 (n : Int), .slice Aa arcs.length ca] w fun e w' => ∃ gc gn ga nd al L rk comp mm, e = .returned (.tuple #[.pointer (some ⟨gc, 0, none⟩), .int .i64 0]) ∧ Kn w w' gc n arcs arcs gn ga nd al L rk ∧ CompOf n (PE (rng n) arcs) comp mm ∧ acyB arcs mm n = true ∧ Below w.heap.size w w' := by
  refine (build_calls w n Aa ca arcs ha hn hm).mono ?_
  rintro e w' ⟨hb, ⟨h1, _⟩ | ⟨comp, m, hco, hg, hab, _⟩ | ⟨⟨comp, m, hco, hab⟩, hacy, ⟨rk, hrk⟩, gc, gn, ga, nd, al, L, rfl, hC⟩⟩
  · rw [good_rng.2 hac.good] at h1
    cases h1
  · exact absurd hac (acy_not hco hab)
  · exact ⟨gc, gn, ga, nd, al, L, rk, comp, m, rfl, ⟨hC, hrk, hn, hacy, hacy.good, fun p hp => hp⟩, hco, hab, hb⟩

end Go.Proofs.Ytdohfjidnbhfnaa.Lc
