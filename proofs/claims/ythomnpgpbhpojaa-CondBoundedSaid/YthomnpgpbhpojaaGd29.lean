/- The references' Place, walked. -/
import Derived.Test.YthomnpgpbhpojaaGd28
import Derived.Test.YthomnpgpbhpojaaGd24
namespace Go.Proofs.Ythomnpgpbhpojaa.Lw
open Go Go.RowKit Go.Proofs.Ythomnpgpbhpojaa.Mem Go.Proofs.Ythomnpgpbhpojaa.Sl Go.Proofs.Ythomnpgpbhpojaa.Scc Go.Proofs.Ythomnpgpbhpojaa.Tj Go.Proofs.YthomnpgpbhpojaaW.PrintWords Go.Proofs.YthomnpgpbhpojaaW.PrintLast
attribute [local go_sem ↓] Go.wp_at_zero Go.wp_at_succ
set_option linter.unusedSimpArgs false
set_option linter.unusedVariables false

def plI (sl : List Int) (v : Int) : Int := if sl.contains v = true then (place sl v : Int) else -1

theorem plI_at {sl : List Int} (hs : sl.Pairwise (· < ·)) {v : Int} {lo : Nat} (h : sl[lo]? = some v) : plI sl v = (lo : Int) := by
  obtain ⟨hl, he⟩ := List.getElem?_eq_some_iff.1 h
  unfold plI
  rw [if_pos (by simpa using List.mem_of_getElem? h), ← he, place_at sl lo hs hl]
theorem plI_none {sl : List Int} {v : Int} {lo : Nat} (h1 : ∀ (i : Nat) (x : Int), i < lo → sl[i]? = some x → x < v) (h2 : ∀ (i : Nat) (x : Int), lo ≤ i → sl[i]? = some x → v ≤ x) (hs : sl.Pairwise (· < ·)) (h3 : sl[lo]? ≠ some v) : plI sl v = -1 := by
  unfold plI
  rw [if_neg]
  intro hc
  have hm : v ∈ sl := by simpa using hc
  obtain ⟨j, hj, he⟩ := List.getElem_of_mem hm
  have hjs : sl[j]? = some v := by rw [List.getElem?_eq_getElem hj, he]
  rcases Nat.lt_trichotomy j lo with h | h | h
  · have := h1 j v h hjs; omega
  · subst h; exact h3 hjs
  · have hlo : lo < sl.length := by omega
    have h4 := h2 lo _ (Nat.le_refl _) (List.getElem?_eq_getElem hlo)
    have h5 := List.pairwise_iff_getElem.1 hs lo j hlo hj h
    omega

def gV (A : Option Addr) (n c : Nat) (E : Value) (gw : Int := 0) : Value := .agg #[.slice A n c, E, .int .i64 0, .int .i64 gw]


set_option maxHeartbeats 8000000 in
set_option maxRecDepth 100000 in
theorem place_calls {gw : Int} (w : World) (A AE : Option Addr) (c m ce : Nat) (sl : List Int) (v : Int) (hv : RdI w A sl) (hs : sl.Pairwise (· < ·)) (hl : sl.length ≤ 1000000) :
    Calls Try.prog 47 #[gV A sl.length c (.slice AE m ce) gw, .int .i64 v] w fun e w' => e = .returned (.int .i64 (plI sl v)) ∧ Below w.heap.size w w' := by
  obtain ⟨n, hn⟩ : ∃ n, sl.length = n := ⟨_, rfl⟩
  rw [hn] at hl ⊢
  have HV := Lib.hid hv
  have HS := Lib.hid hs
  have HN := Lib.hid hn
  clear hv hs hn
  unfold gV
  go_enter Try.func47, Try.ntmps47
  go_upto_region 1 with (fail)
  refine gen_world (fun W => At W w.heap.size [.slice A n c, .slice AE m ce, .int .i64 0, .int .i64 gw] 28 ∧ Below w.heap.size w W) ?_ ?_
  · exact ⟨At.made rfl rfl, (Below.refl _ _).alloc (Nat.le_refl _) _⟩
  obtain ⟨gb, hgb⟩ : ∃ gb, w.heap.size = gb := ⟨_, rfl⟩
  rw [hgb]
  rintro W ⟨hat, hb⟩
  have cg := hat.cell 0 rfl
  have HAT := Lib.hid hat
  have HB := Lib.hid (hgb ▸ hb : Below w.heap.size w W)
  clear hat hb hgb
  refine start_ (n := 5) (S := fun w' => w'.cell? ⟨gb, 0, none⟩ = some (.slice A n c)) (ds := []) (bA 5 0) (by kernel_rfl) rfl rfl (cg) (fun hHeld => ?_)
  refine pure_ (i := 0) (N := some 8) (v := ?_) (a' := ?_) (bA 5 1) rfl rfl (by kernel_rfl) (fun _ _ _ h => h) (Or.inl ⟨by rfl, ?_⟩) ?_ ?_
  rotate_left; · intro w'; go_simp; with_reducible rfl
  rotate_left; · simp only [Act.put, pA, pB, pC, pD, pE]; rfl
  refine pure_ (i := 3) (N := some 5) (v := ?_) (a' := ?_) (bA 5 9) rfl rfl (by kernel_rfl) (fun _ _ _ h => h) (Or.inl ⟨by rfl, ?_⟩) ?_ ?_
  rotate_left; · intro w'; go_simp; with_reducible rfl
  rotate_left; · simp only [Act.put, pA, pB, pC, pD, pE]; rfl
  refine take_ (i := 1) (N := some 9) (v := ?_) (a' := ?_) (bA 5 11) rfl rfl (by kernel_rfl) (fun _ _ _ h => h) (Or.inl ⟨by rfl, ?_⟩) hHeld ?_ ?_
  rotate_left
  · intro w' s0
    go_simp; with_reducible rfl
  rotate_left; · simp only [Act.put, pA, pB, pC, pD, pE]; rfl
  refine pure_ (i := 2) (N := some 10) (v := ?_) (a' := ?_) (bA 5 15) rfl rfl (by kernel_rfl) (fun _ _ _ h => h) (Or.inl ⟨by rfl, ?_⟩) ?_ ?_
  rotate_left; · intro w'; go_simp; with_reducible rfl
  rotate_left; · simp only [Act.put, pA, pB, pC, pD, pE]; rfl
  refine pure_ (i := 4) (N := some 6) (v := ?_) (a' := ?_) (bA 5 31) rfl rfl (by kernel_rfl) (fun _ _ _ h => h) (Or.inl ⟨by rfl, ?_⟩) ?_ ?_
  rotate_left; · intro w'; go_simp; with_reducible rfl
  rotate_left; · simp only [Act.put, pA, pB, pC, pD, pE]; rfl
  refine done_ (by kernel_rfl) ?_
  clear hHeld; clear cg
  refine gen_then (fun W => At W gb [.slice A n c, .slice AE m ce, .int .i64 0, .int .i64 gw] 28 ∧ Below w.heap.size w W) ?_ ?_
  · exact ⟨HAT.out.drew, HB.out.drew⟩
  clear HAT HB
  rintro W0 ⟨hat, hb⟩
  have cg := hat.cell 0 rfl
  have HB := Lib.hid hb
  clear hat hb
  go_wp2
  go_loopg [5, 6] n (fun kq v5 v6 w' => ∃ lo hi : Nat, v5 = .int .i64 (lo : Int) ∧ v6 = .int .i64 (hi : Int) ∧ Hid (lo + kq = hi ∧ hi ≤ n ∧ w' = W0 ∧ (∀ (i : Nat) (x : Int), i < lo → sl[i]? = some x → x < v) ∧ ∀ (i : Nat) (x : Int), hi ≤ i → sl[i]? = some x → v ≤ x))
  case atStart => exact ⟨0, n, rfl, rfl, Lib.hid ⟨by omega, Nat.le_refl _, rfl, fun i x h => by omega, fun i x h hx => by have := (List.getElem?_eq_some_iff.1 hx).1; have := HN.out; omega⟩⟩
  case round =>
    obtain ⟨lo, hi, rfl, rfl, hI⟩ := hrel
    obtain ⟨hlh, hhn, hw, h1, h2⟩ := hI.out
    subst hw
    clear hI
    cases gk with
    | zero =>
      obtain rfl : hi = lo := by omega
      by_cases hln : hi < n
      · obtain ⟨x, hx⟩ : ∃ x, sl[hi]? = some x := ⟨_, List.getElem?_eq_getElem (by have := HN.out; omega)⟩
        obtain ⟨b, rfl, cx⟩ := (HV.out.below HB.out) hi x hx
        have j0 : (0 : Int) ≤ (hi : Int) := by omega
        have j1 : (hi : Int) < (n : Int) := by omega
        have j2 : (n : Int) ≤ 1000000 := by omega
        by_cases hxv : x = v
        · subst hxv
          have hp := plI_at HS.out hx
          have HP := Lib.hid hp
          clear hp hx h1 h2 hlh hln
          go_wp2
          go_ret
          exact ⟨by rw [HP.out]; rfl, HB.out⟩
        · have hp := plI_none h1 h2 HS.out (by rw [hx]; simpa using hxv)
          have HP := Lib.hid hp
          have e1 : (x == v) = false := beq_eq_false_iff_ne.2 hxv
          clear hp hx h1 h2 hlh hln hxv
          go_wp2
          go_ret
          exact ⟨by rw [HP.out]; rfl, HB.out⟩
      · have hp := plI_none h1 h2 HS.out (by rw [List.getElem?_eq_none (by have := HN.out; omega)]; simp)
        have HP := Lib.hid hp
        obtain rfl : hi = n := by omega
        clear hp h1 h2 hlh hln
        go_wp2
        go_ret
        exact ⟨by rw [HP.out]; rfl, HB.out⟩
    | succ k =>
      obtain ⟨mid, hmid⟩ : ∃ mid, (lo + hi) / 2 = mid := ⟨_, rfl⟩
      have hm1 : lo ≤ mid := by omega
      have hm2 : mid < hi := by omega
      obtain ⟨x, hx⟩ : ∃ x, sl[mid]? = some x := ⟨_, List.getElem?_eq_getElem (by have := HN.out; omega)⟩
      obtain ⟨b, rfl, cx⟩ := (HV.out.below HB.out) mid x hx
      have hmono : ∀ (i j : Nat) (p q : Int), i ≤ j → sl[i]? = some p → sl[j]? = some q → p ≤ q := by
        intro i j p q hij hp hq
        obtain ⟨a1, a2⟩ := List.getElem?_eq_some_iff.1 hp
        obtain ⟨b1, b2⟩ := List.getElem?_eq_some_iff.1 hq
        rcases Nat.eq_or_lt_of_le hij with rfl | h
        · rw [hp] at hq; cases hq; exact Int.le_refl _
        · have := List.pairwise_iff_getElem.1 HS.out i j a1 b1 h; omega
      have l0 : (0 : Int) ≤ (lo : Int) := by omega
      have l1 : (lo : Int) < (hi : Int) := by omega
      have j0 : (0 : Int) ≤ (mid : Int) := by omega
      have j1 : (mid : Int) < (n : Int) := by omega
      have j2 : (n : Int) ≤ 1000000 := by omega
      have e2 : ((lo : Int) + (hi : Int)).tdiv 2 = (mid : Int) := by rw [Int.tdiv_eq_ediv_of_nonneg (by omega), ← hmid]; omega
      have e3 : ((lo : Int) + (hi : Int)) / 2 = (mid : Int) := by rw [← hmid]; omega
      have e1 : ∀ y : Int, y = (lo : Int) + (hi : Int) → wrap64 y = y := fun y hy => by subst hy; unfold wrap64; omega
      have HL := Lib.hid (show lo + (k + 1) = hi ∧ hi ≤ n ∧ lo ≤ mid ∧ mid < hi from ⟨hlh, hhn, hm1, hm2⟩)
      by_cases hxv : x < v
      · have H1 := Lib.hid (show ∀ (i : Nat) (p : Int), i < mid + 1 → sl[i]? = some p → p < v from fun i p hi' hp => by have := hmono i mid p x (by omega) hp hx; omega)
        have H2 := Lib.hid h2
        clear h1 h2 hmono hx hmid hm1 hm2 hlh hhn
        go_wp2
        go_roundg (hi - (mid + 1))
        case measure => have := HL.out; omega
        case rel => exact ⟨mid + 1, hi, by go_num, rfl, Lib.hid ⟨by have := HL.out; omega, HL.out.2.1, rfl, H1.out, H2.out⟩⟩
      · have H1 := Lib.hid h1
        have H2 := Lib.hid (show ∀ (i : Nat) (p : Int), mid ≤ i → sl[i]? = some p → v ≤ p from fun i p hi' hp => by have := hmono mid i x p hi' hx hp; omega)
        clear h1 h2 hmono hx hmid hm1 hm2 hlh hhn
        go_wp2
        go_roundg (mid - lo)
        case measure => have := HL.out; omega
        case rel => exact ⟨lo, mid, rfl, by go_num, Lib.hid ⟨by have := HL.out; omega, by have := HL.out; omega, rfl, H1.out, H2.out⟩⟩

end Go.Proofs.Ythomnpgpbhpojaa.Lw

/- The references' Error, walked. -/
namespace Go.Proofs.Ythomnpgpbhpojaa.Lw
open Go Go.RowKit Go.Proofs.Ythomnpgpbhpojaa.Mem Go.Proofs.Ythomnpgpbhpojaa.Sl Go.Proofs.Ythomnpgpbhpojaa.Scc Go.Proofs.Ythomnpgpbhpojaa.Tj Go.Proofs.YthomnpgpbhpojaaW.PrintWords Go.Proofs.YthomnpgpbhpojaaW.PrintLast
attribute [local go_sem ↓] Go.wp_at_zero Go.wp_at_succ
set_option linter.unusedSimpArgs false
set_option linter.unusedVariables false

theorem keep_at {w w' : World} {a : Addr} {v : Value} (hb : Below w.heap.size w w') (hc : w.cell? a = some v) : w'.cell? a = some v := (hb.cell (World.block_lt_of_cell? w _ hc)).trans hc

theorem plI_neg {sl : List Int} {v : Int} : plI sl v < 0 ↔ sl.contains v = false := by
  unfold plI
  split
  · rename_i h; rw [h]; simp
  · rename_i h; simp at h; simp [h]

theorem gen_loopw {P : Program} {c : Code} {Q : Exit → Act → World → Prop} {a : Act} {w : World} (I : World → Prop) (h : I w) (k : ∀ W, I W → Code.wp P c Q a W) : Code.wp P c Q a w := k w h


theorem Below.drewL {w w' : World} (h : Below w.drew.heap.size w.drew w') : Below w.heap.size w w' := ⟨h.os, h.tape, h.output, h.size, h.block⟩

end Go.Proofs.Ythomnpgpbhpojaa.Lw

/- The references' Graph, walked. -/
namespace Go.Proofs.Ythomnpgpbhpojaa.Lw
open Go Go.RowKit Go.Proofs.Ythomnpgpbhpojaa.Mem Go.Proofs.Ythomnpgpbhpojaa.Sl Go.Proofs.Ythomnpgpbhpojaa.Scc Go.Proofs.Ythomnpgpbhpojaa.Tj Go.Proofs.YthomnpgpbhpojaaW.PrintWords Go.Proofs.YthomnpgpbhpojaaW.PrintLast
attribute [local go_sem ↓] Go.wp_at_zero Go.wp_at_succ
set_option linter.unusedSimpArgs false
set_option linter.unusedVariables false

theorem info_edge : (Try.prog.info? 36).map (fun i => (i.zero, i.size, i.bytes)) = some (some (.agg #[.int .i64 0, .int .i64 0, .int .i64 0, .int .u32 0]), 4, 32) := by kernel_rfl

def RdE (w : World) (A : Option Addr) (l : List (Int × Int)) : Prop := ∀ (j : Nat) (u v : Int), l[j]? = some (u, v) → ∃ b, A = some ⟨b, 0, none⟩ ∧ w.cell? ⟨b, j * 4 + 1, none⟩ = some (.int .i64 u) ∧ w.cell? ⟨b, j * 4 + 2, none⟩ = some (.int .i64 v)
theorem RdE.below {w w' : World} {A : Option Addr} {l : List (Int × Int)} (h : RdE w A l) (hb : Below w.heap.size w w') : RdE w' A l := fun j u v hx => by
  obtain ⟨b, h1, h2, h3⟩ := h j u v hx
  exact ⟨b, h1, keep_at hb h2, keep_at hb h3⟩

def EdC (l : List (Int × Int)) (xs : List Value) : Prop := xs.length = l.length * 4 ∧ ∀ (j : Nat) (u v : Int), l[j]? = some (u, v) → xs[j * 4 + 1]? = some (.int .i64 u) ∧ xs[j * 4 + 2]? = some (.int .i64 v)
theorem EdC.nil : EdC [] [] := ⟨rfl, fun j u v h => by simp at h⟩
theorem EdC.snoc {l : List (Int × Int)} {xs : List Value} {u v : Int} {e f : Value} (h : EdC l xs) : EdC (l ++ [(u, v)]) (xs ++ [e, .int .i64 u, .int .i64 v, f]) := by
  refine ⟨by simp [h.1]; omega, fun j a b hx => ?_⟩
  have hl := h.1
  rcases Nat.lt_or_ge j l.length with hj | hj
  · rw [List.getElem?_append_left hj] at hx
    rw [List.getElem?_append_left (by omega), List.getElem?_append_left (by omega)]
    exact h.2 j a b hx
  · have hj2 : j = l.length := by
      have := (List.getElem?_eq_some_iff.1 hx).1
      simp at this
      omega
    subst hj2
    rw [List.getElem?_append_right (Nat.le_refl _), Nat.sub_self] at hx
    cases hx
    rw [List.getElem?_append_right (by omega), List.getElem?_append_right (by omega), show l.length * 4 + 1 - xs.length = 1 by omega, show l.length * 4 + 2 - xs.length = 2 by omega]
    exact ⟨rfl, rfl⟩

structure GS (w : World) (gx gb : Nat) (A : Option Addr) (n cg : Nat) (sl : List Int) (vE : Value) (l : List (Int × Int)) (W : World) : Prop where
  x : At W gx [.slice A n cg, vE, .int .i64 0, .int .i64 0] 28
  b : At W gb [.slice none 0 0, .slice none 0 0, .int .i64 0, .int .i64 0] 28
  ne : gx ≠ gb
  hx : w.heap.size ≤ gx
  hb : w.heap.size ≤ gb
  o : ∃ xs, EdC l xs ∧ Two w 3 1 (.slice A n cg) n (ints sl) 36 4 vE l.length xs W

section
variable {w W W' : World} {gx gb n cg : Nat} {A : Option Addr} {sl : List Int} {vE : Value} {l : List (Int × Int)}
theorem GS.below (h : GS w gx gb A n cg sl vE l W) (hb : Below W.heap.size W W') : GS w gx gb A n cg sl vE l W' := by
  obtain ⟨xs, h1, h2⟩ := h.o
  exact ⟨h.x.below hb h.x.lt, h.b.below hb h.b.lt, h.ne, h.hx, h.hb, xs, h1, h2.below hb⟩
end


end Go.Proofs.Ythomnpgpbhpojaa.Lw

/- The references' Reached, walked. -/
namespace Go.Proofs.Ythomnpgpbhpojaa.Lw
open Go Go.RowKit Go.Proofs.Ythomnpgpbhpojaa.Mem Go.Proofs.Ythomnpgpbhpojaa.Sl Go.Proofs.Ythomnpgpbhpojaa.Scc Go.Proofs.Ythomnpgpbhpojaa.Tj Go.Proofs.YthomnpgpbhpojaaW.PrintWords Go.Proofs.YthomnpgpbhpojaaW.PrintLast
attribute [local go_sem ↓] Go.wp_at_zero Go.wp_at_succ
set_option linter.unusedSimpArgs false
set_option linter.unusedVariables false

theorem count_set_lt : ∀ (l : List Bool) (i : Nat), l[i]? = some false → (l.set i true).count false < l.count false
  | [], i, h => by simp at h
  | b :: r, 0, h => by
    have : b = false := by simpa using h
    subst this
    simp
  | b :: r, i + 1, h => by
    have := count_set_lt r i (by simpa using h)
    simp only [List.set_cons_succ, List.count_cons]
    omega

def Snd (E : Nat → Nat → Prop) (i0 : Nat) (rb : List Bool) : Prop := rb[i0]? = some true ∧ ∀ x : Nat, rb[x]? = some true → Rch E i0 x
def Cls (sl : List Int) (R : List (Int × Int)) (k : Nat) (rb : List Bool) : Prop := ∀ p ∈ R.take k, rb[place sl p.1]? = some true → rb[place sl p.2]? = some true

theorem reached_all {sl : List Int} {R : List (Int × Int)} {i0 : Nat} {rb : List Bool} (hs : Snd (PE sl R) i0 rb) (hc : Cls sl R R.length rb) (x : Nat) : rb[x]? = some true ↔ Rch (PE sl R) i0 x := by
  refine ⟨hs.2 x, fun h => ?_⟩
  induction h with
  | refl => exact hs.1
  | step _ he ih =>
    obtain ⟨p, hp, h1, h2⟩ := he
    have := hc p (by rw [List.take_length]; exact hp) (by rw [h1]; exact ih)
    rw [h2] at this
    exact this

structure Pass (sl : List Int) (R : List (Int × Int)) (i0 k : Nat) (rb0 rb : List Bool) (again : Bool) : Prop where
  snd : Snd (PE sl R) i0 rb
  len : rb.length = rb0.length
  no : again = false → rb = rb0 ∧ Cls sl R k rb
  yes : again = true → rb.count false < rb0.count false

theorem Pass.keep {sl : List Int} {R : List (Int × Int)} {i0 k : Nat} {rb0 rb : List Bool} {again : Bool} {u v : Int} (h : Pass sl R i0 k rb0 rb again) (hx : R[k]? = some (u, v)) (hk : rb[place sl u]? = some true → rb[place sl v]? = some true) : Pass sl R i0 (k + 1) rb0 rb again := by
  refine ⟨h.snd, h.len, fun ha => ⟨(h.no ha).1, fun p hp => ?_⟩, h.yes⟩
  rw [List.take_add_one, hx] at hp
  rcases List.mem_append.1 hp with hp | hp
  · exact (h.no ha).2 p hp
  · have : p = (u, v) := by simpa using hp
    subst this
    exact hk
theorem Pass.turn {sl : List Int} {R : List (Int × Int)} {i0 k : Nat} {rb0 rb : List Bool} {again : Bool} {u v : Int} (h : Pass sl R i0 k rb0 rb again) (hx : R[k]? = some (u, v)) (hu : rb[place sl u]? = some true) (hv : rb[place sl v]? = some false) : Pass sl R i0 (k + 1) rb0 (rb.set (place sl v) true) true := by
  have hvl : place sl v < rb.length := (List.getElem?_eq_some_iff.1 hv).1
  have hlt := count_set_lt rb (place sl v) hv
  refine ⟨⟨?_, fun x hx2 => ?_⟩, by rw [List.length_set]; exact h.len, fun ha => (by cases ha), fun _ => ?_⟩
  · by_cases he : i0 = place sl v
    · rw [← he] at hv
      rw [h.snd.1] at hv
      cases hv
    · rw [List.getElem?_set_ne (Ne.symm he)]
      exact h.snd.1
  · by_cases he : x = place sl v
    · subst he
      exact .step (h.snd.2 _ hu) ⟨(u, v), List.mem_of_getElem? hx, rfl, rfl⟩
    · rw [List.getElem?_set_ne (Ne.symm he)] at hx2
      exact h.snd.2 x hx2
  · cases again with
    | true => have := h.yes rfl; omega
    | false => have := (h.no rfl).1; rw [this] at hlt; rw [this]; exact hlt

theorem plI_pos {sl : List Int} {v : Int} (h : sl.contains v = true) : plI sl v = ((place sl v : Nat) : Int) := by
  unfold plI
  rw [if_pos h]

structure RSt (gw : Int) (w : World) (gx gi : Nat) (A : Option Addr) (n cg : Nat) (AE : Option Addr) (m ce : Nat) (rb : List Bool) (W : World) : Prop where
  x : At W gx [.slice A n cg, .slice AE m ce, .int .i64 0, .int .i64 gw] 28
  i : At W gi (bls rb) 4
  ne : gx ≠ gi
  hx : w.heap.size ≤ gx
  hi : w.heap.size ≤ gi
  b : Below w.heap.size w W
  len : rb.length = n
section
variable {gw : Int} {w W W' : World} {gx gi n cg m ce : Nat} {A AE : Option Addr} {rb : List Bool}
theorem RSt.below (h : RSt gw w gx gi A n cg AE m ce rb W) (hb : Below W.heap.size W W') : RSt gw w gx gi A n cg AE m ce rb W' := ⟨h.x.below hb h.x.lt, h.i.below hb h.i.lt, h.ne, h.hx, h.hi, h.b.trans (hb.mono h.b.size), h.len⟩
theorem RSt.set (h : RSt gw w gx gi A n cg AE m ce rb W) (j : Nat) (y : Bool) : RSt gw w gx gi A n cg AE m ce (rb.set j y) (W.setCell ⟨gi, j, none⟩ (.bool y)) :=
  ⟨h.x.off h.ne, h.i.put (bls_set _ _ _).symm, h.ne, h.hx, h.hi, h.b.setCell h.hi _, by rw [List.length_set]; exact h.len⟩
end
theorem zero_set {a : List Bool} {i n : Nat} {y : Bool} (ha : a.length = i) (hi : i < n) : (a ++ List.replicate (n - i) false).set i y = (a ++ [y]) ++ List.replicate (n - (i + 1)) false := by
  obtain ⟨k, hk⟩ : ∃ k, n - i = k + 1 := ⟨n - i - 1, by omega⟩
  rw [hk, show n - (i + 1) = k by omega, List.replicate_succ, List.set_append, if_neg (by omega), ha, Nat.sub_self, List.set_cons_zero, List.append_assoc]
  rfl

def tb65_12.T12 : Bool × List (List Nat × List Nat) := (true, [([], []), ([], []), ([1], [1]), ([], []), ([2, 3], [2, 3]), ([4], [4]), ([5], [5]), ([0, 6], [0, 6]), ([], []), ([], []), ([9], [9]), ([], []), ([10, 11], [10, 11]), ([12], [12]), ([13], [13]), ([8, 14, 7], [8, 14]), ([7, 15, 0, 1, 2, 3, 4, 5, 6, 7], [7]), ([15, 16, 0, 1, 2, 3, 4, 5, 6, 7, 8, 9, 10, 11, 12, 13, 14, 15, 16], [15])])
def tb65_12.B12 : List Nat := [0, 0, 2, 0, 14, 30, 62, 127, 0, 0, 512, 0, 3584, 7680, 15872, 32767, 65535, 131071]
theorem tb65_12.tab12 : rtab .any (opsOf Try.f65 12) = tb65_12.T12 := by kernel_rfl
theorem tb65_12.bits12 : waitsOk tb65_12.T12.2 tb65_12.B12 = true := by kernel_rfl
set_option maxHeartbeats 8000000 in
set_option maxRecDepth 100000 in
theorem reached_calls {gw : Int} (w : World) (A AE : Option Addr) (cg ce i0 : Nat) (sl : List Int) (R : List (Int × Int)) (s : Int) (hv : RdI w A sl) (he : RdE w AE R) (hs : sl.Pairwise (· < ·)) (hgood : good sl R = true) (h0 : sl[i0]? = some s) (hl : sl.length ≤ 1000) (hr : R.length ≤ 100000) :
    Calls Try.prog 65 #[gV A sl.length cg (.slice AE R.length ce) gw, .int .i64 s] w fun e w' => ∃ v rb, e = .returned v ∧ One w 4 1 v sl.length (bls rb) w' ∧ rb.length = sl.length ∧ ∀ x : Nat, rb[x]? = some true ↔ Rch (PE sl R) i0 x := by
  obtain ⟨n, hn⟩ : ∃ n, sl.length = n := ⟨_, rfl⟩
  rw [hn] at hl ⊢
  have HV := Lib.hid hv
  have HE := Lib.hid he
  have HS := Lib.hid hs
  have HGD := Lib.hid hgood
  have H0 := Lib.hid h0
  have HN := Lib.hid hn
  clear hv he hs hgood h0 hn
  unfold gV
  have hm1 := fun wx => run_make_row' (P := Try.prog) 90 4 (.bool false) 1 Try.underlying90 info_bool rfl .i64 .i64 n (by omega) (by omega) wx
  go_enter Try.func65, Try.ntmps65
  go_wp2_with fail
  clear hm1
  refine gen_loopw (fun W => RSt gw w w.heap.size (w.heap.size + 1) A n cg AE R.length ce (List.replicate n false) W) ?_ ?_
  · exact ⟨(At.made rfl rfl).al, At.made (by simp) (by rw [toList_madeCells_one]; simp [bls]), by omega, Nat.le_refl _, by omega, ((Below.refl _ _).alloc (Nat.le_refl _) _).alloc (by simp) _, by simp⟩
  obtain ⟨gx, hgx⟩ : ∃ gx, w.heap.size = gx := ⟨_, rfl⟩
  obtain ⟨gi, hgi⟩ : ∃ gi, w.heap.size + 1 = gi := ⟨_, rfl⟩
  rw [hgi, hgx]
  clear hgx hgi
  intro w3 hG
  have HG3 := Lib.hid hG
  clear hG
  go_loopg [6] n (fun kq v6 w' => ∃ i : Nat, v6 = .int .i64 (i : Int) ∧ Hid (i + kq = n ∧ RSt gw w gx gi A n cg AE R.length ce ((sl.take i).map (fun x => x == s) ++ List.replicate (n - i) false) w'))
  case atStart => exact ⟨0, rfl, Lib.hid ⟨by omega, by simpa using HG3.out⟩⟩
  case round =>
    clear HG3
    obtain ⟨i, rfl, hI⟩ := hrel
    obtain ⟨hik, hG⟩ := hI.out
    clear hI
    by_cases hi : i < n
    · obtain ⟨k1, rfl⟩ : ∃ k1, gk = k1 + 1 := ⟨gk - 1, by omega⟩
      obtain ⟨x, hx⟩ : ∃ x, sl[i]? = some x := ⟨_, List.getElem?_eq_getElem (by have := HN.out; omega)⟩
      obtain ⟨b, rfl, cx⟩ := (HV.out.below hG.b) i x hx
      have q0 := hG.x.cell 0 rfl
      obtain ⟨x0, hx0⟩ : ∃ x0, wr.cell? ⟨gi, i, none⟩ = some x0 := ⟨_, hG.i.cell i (List.getElem?_eq_getElem (by rw [bls_length, hG.len]; exact hi))⟩
      have hfr := hG.i.free i
      have hset := hG.set i (x == s)
      have htk : (sl.take (i + 1)).map (fun x => x == s) = (sl.take i).map (fun x => x == s) ++ [x == s] := by rw [List.take_add_one, hx]; simp
      rw [zero_set (by rw [List.length_map, List.length_take]; have := HN.out; omega) hi, ← htk] at hset
      have HSET := Lib.hid hset
      have HIK := Lib.hid hik
      have j0 : (0 : Int) ≤ (i : Int) := by omega
      have j1 : (i : Int) < (n : Int) := by omega
      have j2 : (n : Int) ≤ 1000 := by omega
      clear hG hset htk hx hik hi
      go_wp2
      go_roundg k1
      case measure => have := HIK.out; omega
      case rel => exact ⟨i + 1, by go_num, Lib.hid ⟨by have := HIK.out; omega, HSET.out⟩⟩
    · obtain rfl : n = i := by omega
      rw [List.take_of_length_le (by have := HN.out; omega), Nat.sub_self, List.replicate_zero, List.append_nil] at hG
      obtain ⟨rb1, hrb1⟩ : ∃ rb1, sl.map (fun x => x == s) = rb1 := ⟨_, rfl⟩
      rw [hrb1] at hG
      have hsnd : Snd (PE sl R) i0 rb1 := by
        rw [← hrb1]
        refine ⟨by rw [List.getElem?_map, H0.out]; simp, fun x hx => ?_⟩
        rw [List.getElem?_map] at hx
        cases hsx : sl[x]? with
        | none => rw [hsx] at hx; cases hx
        | some y =>
          rw [hsx] at hx
          have hys : y = s := by simpa using hx
          subst hys
          obtain ⟨a1, a2⟩ := List.getElem?_eq_some_iff.1 hsx
          obtain ⟨b1, b2⟩ := List.getElem?_eq_some_iff.1 H0.out
          have : x = i0 := by
            rcases Nat.lt_trichotomy x i0 with h | h | h
            · have := List.pairwise_iff_getElem.1 HS.out x i0 a1 b1 h; omega
            · exact h
            · have := List.pairwise_iff_getElem.1 HS.out i0 x b1 a1 h; omega
          subst this
          exact .refl _
      have HG1 := Lib.hid hG
      have HSN := Lib.hid hsnd
      have q0 := hG.x.cell 0 rfl
      clear hG hsnd hrb1 hik hi
      go_wp2_with fail
      clear q0
      go_loopg [7] (rb1.count false + 1) (fun kq v7 w' => ∃ (again : Bool) (rb : List Bool), v7 = .bool again ∧ Hid (RSt gw w gx gi A n cg AE R.length ce rb w' ∧ Snd (PE sl R) i0 rb ∧ (again = false → Cls sl R R.length rb) ∧ kq = if again = true then rb.count false + 1 else 0))
      case atStart => exact ⟨true, rb1, rfl, Lib.hid ⟨HG1.out, HSN.out, fun h => (by cases h), by rw [if_pos rfl]⟩⟩
      case round =>
        clear HG1 HSN
        obtain ⟨again, rb, rfl, hI⟩ := hrel
        obtain ⟨hG, hsn, hcl, hkq⟩ := hI.out
        clear hI
        cases again with
        | false =>
          have HG := Lib.hid hG
          have HALL := Lib.hid (reached_all hsn (hcl rfl))
          clear hG hsn hcl hkq
          go_wp2
          go_ret
          refine ⟨_, rb, rfl, ⟨?_, HG.out.b⟩, HG.out.len, HALL.out⟩
          have h := HG.out
          refine ⟨by rw [bls_length, h.len, Nat.mul_one], .inr ⟨gi, n, (bls rb).toArray, rfl, h.hi, h.i, Nat.le_refl _, by unfold maxLen; omega, by rw [List.size_toArray, bls_length, h.len, Nat.mul_one], ?_⟩⟩
          rw [List.take_of_length_le (by rw [bls_length, h.len, Nat.mul_one]; exact Nat.le_refl _)]
        | true =>
          rw [if_pos rfl] at hkq
          subst hkq
          have HG := Lib.hid hG
          have HSN := Lib.hid hsn
          clear hG hsn hcl
          go_wp2_with fail
          go_loopg [7, 8] R.length (fun kq v7 v8 w' => ∃ (k : Nat) (again : Bool) (rb' : List Bool), v7 = .bool again ∧ v8 = .int .i64 (k : Int) ∧ Hid (k + kq = R.length ∧ RSt gw w gx gi A n cg AE R.length ce rb' w' ∧ Pass sl R i0 k rb rb' again))
          case atStart => exact ⟨0, false, rb, rfl, rfl, Lib.hid ⟨by omega, HG.out, ⟨HSN.out, rfl, fun _ => ⟨rfl, fun p hp => by simp at hp⟩, fun h => (by cases h)⟩⟩⟩
          case round =>
            clear HG HSN
            obtain ⟨k, again, rb', rfl, rfl, hI⟩ := hrel
            obtain ⟨hkk, hG, hP⟩ := hI.out
            clear hI
            have q1 := hG.x.cell 1 rfl
            by_cases hk : k < R.length
            · obtain ⟨k1, rfl⟩ : ∃ k1, gk = k1 + 1 := ⟨gk - 1, by omega⟩
              obtain ⟨⟨u, v⟩, hxx⟩ : ∃ x, R[k] = x := ⟨_, rfl⟩
              have hx : R[k]? = some (u, v) := by rw [List.getElem?_eq_getElem hk, hxx]
              obtain ⟨be, rfl, qu, qv⟩ := (HE.out.below hG.b) k u v hx
              have q0 := hG.x.cell 0 rfl
              have q2 := hG.x.cell 2 rfl
              have q3 := hG.x.cell 3 rfl
              have hgp := good_iff.1 HGD.out _ (List.mem_of_getElem? hx)
              have hC : ∀ (x : Int), sl.contains x = true → ∀ (W : World), Below wr.heap.size wr W → Calls Try.prog 47 #[.agg #[.slice A n cg, .slice (some ⟨be, 0, none⟩) R.length ce, .int .i64 0, .int .i64 gw], .int .i64 x] W fun e w' => e = .returned (.int .i64 ((place sl x : Nat) : Int)) ∧ Below W.heap.size W w' := fun x hcx W hW => by
                have := place_calls (gw := gw) W A (some ⟨be, 0, none⟩) cg R.length ce sl x ((HV.out.below hG.b).below hW) HS.out (by rw [HN.out]; omega)
                rw [HN.out, plI_pos hcx] at this
                exact this
              have hpu : place sl u < n := by have := place_lt HS.out (x := u) (by simpa using hgp.1); have := HN.out; omega
              have hpv : place sl v < n := by have := place_lt HS.out (x := v) (by simpa using hgp.2); have := HN.out; omega
              have HKU := Lib.hid (fun h => hP.keep hx h)
              have HKV := Lib.hid (fun h1 h2 => hP.turn hx h1 h2)
              obtain ⟨pu, hpue⟩ : ∃ pu, place sl u = pu := ⟨_, rfl⟩
              obtain ⟨pv, hpve⟩ : ∃ pv, place sl v = pv := ⟨_, rfl⟩
              have HCU' := hC u hgp.1
              have HCV' := hC v hgp.2
              rw [hpue] at HCU' hpu HKU HKV
              rw [hpve] at HCV' hpv HKU HKV
              have HCU := Lib.hid HCU'
              have HCV := Lib.hid HCV'
              have HKK := Lib.hid hkk
              have HG := Lib.hid hG
              have j0 : (0 : Int) ≤ (k : Int) := by omega
              have j1 : (k : Int) < (R.length : Int) := by omega
              have j2 : (R.length : Int) ≤ 100000 := by omega
              have u0 : (0 : Int) ≤ (pu : Int) := by omega
              have u1 : (pu : Int) < (n : Int) := by omega
              have v0 : (0 : Int) ≤ (pv : Int) := by omega
              have v1 : (pv : Int) < (n : Int) := by omega
              clear hC hG hP hx hxx hgp hpue hpve HCU' HCV' hkk hk
              go_upto_region 12 with (fail)
              refine start_ (n := 18) (S := fun w' => w'.cell? ⟨gx, 0, none⟩ = some (.slice A n cg) ∧ w'.cell? ⟨gx, 1, none⟩ = some (.slice (some ⟨be, 0, none⟩) R.length ce) ∧ w'.cell? ⟨gx, 2, none⟩ = some (.int .i64 0) ∧ w'.cell? ⟨gx, 3, none⟩ = some (.int .i64 gw) ∧ w'.cell? ⟨be, k * 4 + 1, none⟩ = some (.int .i64 u) ∧ w'.cell? ⟨be, k * 4 + 2, none⟩ = some (.int .i64 v)) (ds := []) (bA 18 0) (by kernel_rfl) rfl rfl ⟨q0, q1, q2, q3, qu, qv⟩ (fun hHeld => ?_)
              refine with_tabW tb65_12.tab12 tb65_12.bits12 (fun HT_ HW_ => ?_)
              refine pure_ (i := 1) (N := some 41) (v := ?_) (a' := ?_) (bA 18 2) rfl rfl (any_of HT_.out (by kernel_rfl)) (fun _ _ _ h => h) (Or.inl ⟨by rfl, ?_⟩) ?_ ?_
              rotate_left; · intro w'; go_simp; with_reducible rfl
              rotate_left; · simp only [Act.put, pA, pB, pC, pD, pE]; rfl
              refine pure_ (i := 3) (N := some 43) (v := ?_) (a' := ?_) (bA 18 10) rfl rfl (any_of HT_.out (by kernel_rfl)) (fun _ _ _ h => h) (Or.inl ⟨by rfl, ?_⟩) ?_ ?_
              rotate_left; · intro w'; go_simp; with_reducible rfl
              rotate_left; · simp only [Act.put, pA, pB, pC, pD, pE]; rfl
              refine pure_ (i := 9) (N := some 49) (v := ?_) (a' := ?_) (bA 18 522) rfl rfl (any_of HT_.out (by kernel_rfl)) (fun _ _ _ h => h) (Or.inl ⟨by rfl, ?_⟩) ?_ ?_
              rotate_left; · intro w'; go_simp; with_reducible rfl
              rotate_left; · simp only [Act.put, pA, pB, pC, pD, pE]; rfl
              refine pure_ (i := 11) (N := some 51) (v := ?_) (a' := ?_) (bA 18 2570) rfl rfl (any_of HT_.out (by kernel_rfl)) (fun _ _ _ h => h) (Or.inl ⟨by rfl, ?_⟩) ?_ ?_
              rotate_left; · intro w'; go_simp; with_reducible rfl
              rotate_left; · simp only [Act.put, pA, pB, pC, pD, pE]; rfl
              refine take_ (i := 0) (N := some 40) (v := ?_) (a' := ?_) (bA 18 2571) rfl rfl (take_ofW HT_.out HW_.out (by kernel_rfl)) (fun _ _ _ h => h) (Or.inl ⟨by rfl, ?_⟩) hHeld ?_ ?_
              rotate_left
              · rintro w' ⟨s0, s1, s2, s3, s4, s5⟩
                go_simp; with_reducible rfl
              rotate_left; · simp only [Act.put, pA, pB, pC, pD, pE]; rfl
              refine take_ (i := 2) (N := some 42) (v := ?_) (a' := ?_) (bA 18 2575) rfl rfl (take_ofW HT_.out HW_.out (by kernel_rfl)) (fun _ _ _ h => h) (Or.inl ⟨by rfl, ?_⟩) hHeld ?_ ?_
              rotate_left
              · rintro w' ⟨s0, s1, s2, s3, s4, s5⟩
                go_simp; with_reducible rfl
              rotate_left; · simp only [Act.put, pA, pB, pC, pD, pE]; rfl
              refine pure_ (i := 4) (N := some 44) (v := ?_) (a' := ?_) (bA 18 2591) rfl rfl (any_of HT_.out (by kernel_rfl)) (fun _ _ _ h => h) (Or.inl ⟨by rfl, ?_⟩) ?_ ?_
              rotate_left; · intro w'; go_simp; with_reducible rfl
              rotate_left; · simp only [Act.put, pA, pB, pC, pD, pE]; rfl
              refine pure_ (i := 5) (N := some 45) (v := ?_) (a' := ?_) (bA 18 2623) rfl rfl (any_of HT_.out (by kernel_rfl)) (fun _ _ _ h => h) (Or.inl ⟨by rfl, ?_⟩) ?_ ?_
              rotate_left; · intro w'; go_simp; with_reducible rfl
              rotate_left; · simp only [Act.put, pA, pB, pC, pD, pE]; rfl
              refine take_ (i := 6) (N := some 46) (v := ?_) (a' := ?_) (bA 18 2687) rfl rfl (take_ofW HT_.out HW_.out (by kernel_rfl)) (fun _ _ _ h => h) (Or.inl ⟨by rfl, ?_⟩) hHeld ?_ ?_
              rotate_left
              · rintro w' ⟨s0, s1, s2, s3, s4, s5⟩
                go_simp; with_reducible rfl
              rotate_left; · simp only [Act.put, pA, pB, pC, pD, pE]; rfl
              refine take_ (i := 8) (N := some 48) (v := ?_) (a' := ?_) (bA 18 2943) rfl rfl (take_ofW HT_.out HW_.out (by kernel_rfl)) (fun _ _ _ h => h) (Or.inl ⟨by rfl, ?_⟩) hHeld ?_ ?_
              rotate_left
              · rintro w' ⟨s0, s1, s2, s3, s4, s5⟩
                go_simp; with_reducible rfl
              rotate_left; · simp only [Act.put, pA, pB, pC, pD, pE]; rfl
              refine take_ (i := 10) (N := some 50) (v := ?_) (a' := ?_) (bA 18 3967) rfl rfl (take_ofW HT_.out HW_.out (by kernel_rfl)) (fun _ _ _ h => h) (Or.inl ⟨by rfl, ?_⟩) hHeld ?_ ?_
              rotate_left
              · rintro w' ⟨s0, s1, s2, s3, s4, s5⟩
                go_simp; with_reducible rfl
              rotate_left; · simp only [Act.put, pA, pB, pC, pD, pE]; rfl
              refine pure_ (i := 12) (N := some 52) (v := ?_) (a' := ?_) (bA 18 8063) rfl rfl (any_of HT_.out (by kernel_rfl)) (fun _ _ _ h => h) (Or.inl ⟨by rfl, ?_⟩) ?_ ?_
              rotate_left; · intro w'; go_simp; with_reducible rfl
              rotate_left; · simp only [Act.put, pA, pB, pC, pD, pE]; rfl
              refine pure_ (i := 13) (N := some 53) (v := ?_) (a' := ?_) (bA 18 16255) rfl rfl (any_of HT_.out (by kernel_rfl)) (fun _ _ _ h => h) (Or.inl ⟨by rfl, ?_⟩) ?_ ?_
              rotate_left; · intro w'; go_simp; with_reducible rfl
              rotate_left; · simp only [Act.put, pA, pB, pC, pD, pE]; rfl
              refine take_ (i := 14) (N := some 54) (v := ?_) (a' := ?_) (bA 18 32639) rfl rfl (take_ofW HT_.out HW_.out (by kernel_rfl)) (fun _ _ _ h => h) (Or.inl ⟨by rfl, ?_⟩) hHeld ?_ ?_
              rotate_left
              · rintro w' ⟨s0, s1, s2, s3, s4, s5⟩
                go_simp; with_reducible rfl
              rotate_left; · simp only [Act.put, pA, pB, pC, pD, pE]; rfl
              refine one_ (i := 7) (N := some 47) (bA 18 32767) rfl rfl (one_of HT_.out (by kernel_rfl)) (by decide) (fun K hK => ?_)
              refine goes_ Try.func47 (by kernel_rfl) rfl #[.agg #[.slice A n cg, .slice (some ⟨be, 0, none⟩) R.length ce, .int .i64 0, .int .i64 gw], .int .i64 u] (by rfl) rfl rfl (by simp only [List.map_toArray, List.map_cons, List.map_nil]; rfl) ?_
              with_reducible refine ((HCU.out wr.drew (Below.refl _ _).drew)).mono ?_
              rintro e wa ⟨rfl, hb_wa⟩
              refine ⟨_, rfl, ?_⟩
              refine hK.out _ _ ⟨(keep_at hb_wa (show (wr.drew).cell? _ = _ from q0)), (keep_at hb_wa (show (wr.drew).cell? _ = _ from q1)), (keep_at hb_wa (show (wr.drew).cell? _ = _ from q2)), (keep_at hb_wa (show (wr.drew).cell? _ = _ from q3)), (keep_at hb_wa (show (wr.drew).cell? _ = _ from qu)), (keep_at hb_wa (show (wr.drew).cell? _ = _ from qv))⟩ (fun hHeld => ?_)
              clear hK K
              refine norm_ (a' := ?_) ?_ ?_
              rotate_left
              · show Act.put _ (some 47) _ = _
                simp only [Act.put, pA, pB, pC, pD, pE]; rfl
              refine one_ (i := 15) (N := some 55) (bA 18 65535) rfl rfl (one_of HT_.out (by kernel_rfl)) (by decide) (fun K hK => ?_)
              refine goes_ Try.func47 (by kernel_rfl) rfl #[.agg #[.slice A n cg, .slice (some ⟨be, 0, none⟩) R.length ce, .int .i64 0, .int .i64 gw], .int .i64 v] (by rfl) rfl rfl (by simp only [List.map_toArray, List.map_cons, List.map_nil]; rfl) ?_
              with_reducible refine ((HCV.out wa (Below.drewL hb_wa))).mono ?_
              rintro e wb ⟨rfl, hb_wb⟩
              refine ⟨_, rfl, ?_⟩
              refine hK.out _ _ ⟨(keep_at hb_wb (keep_at hb_wa (show (wr.drew).cell? _ = _ from q0))), (keep_at hb_wb (keep_at hb_wa (show (wr.drew).cell? _ = _ from q1))), (keep_at hb_wb (keep_at hb_wa (show (wr.drew).cell? _ = _ from q2))), (keep_at hb_wb (keep_at hb_wa (show (wr.drew).cell? _ = _ from q3))), (keep_at hb_wb (keep_at hb_wa (show (wr.drew).cell? _ = _ from qu))), (keep_at hb_wb (keep_at hb_wa (show (wr.drew).cell? _ = _ from qv)))⟩ (fun hHeld => ?_)
              clear hK K
              refine norm_ (a' := ?_) ?_ ?_
              rotate_left
              · show Act.put _ (some 55) _ = _
                simp only [Act.put, pA, pB, pC, pD, pE]; rfl
              refine pure_ (i := 16) (N := some 9) (v := ?_) (a' := ?_) (bA 18 131071) rfl rfl (any_of HT_.out (by kernel_rfl)) (fun _ _ _ h => h) (Or.inl ⟨by rfl, ?_⟩) ?_ ?_
              rotate_left; · intro w'; go_simp; with_reducible rfl
              rotate_left; · simp only [Act.put, pA, pB, pC, pD, pE]; rfl
              refine pure_ (i := 17) (N := some 10) (v := ?_) (a' := ?_) (bA 18 262143) rfl rfl (any_of HT_.out (by kernel_rfl)) (fun _ _ _ h => h) (Or.inl ⟨by rfl, ?_⟩) ?_ ?_
              rotate_left; · intro w'; go_simp; with_reducible rfl
              rotate_left; · simp only [Act.put, pA, pB, pC, pD, pE]; rfl
              refine done_ (done_of HT_.out (by kernel_rfl)) ?_
              clear hHeld HT_ HW_; clear q0 q1 q2 q3 qu qv HCU HCV
              have HG2 := Lib.hid (HG.out.below ((Below.drewL hb_wa).trans (hb_wb.mono (Below.drewL hb_wa).size)))
              clear hb_wa hb_wb HG
              obtain ⟨x1, hx1⟩ : ∃ x1, rb'[pu]? = some x1 := ⟨_, List.getElem?_eq_getElem (by rw [HG2.out.len]; exact hpu)⟩
              obtain ⟨x2, hx2⟩ : ∃ x2, rb'[pv]? = some x2 := ⟨_, List.getElem?_eq_getElem (by rw [HG2.out.len]; exact hpv)⟩
              have cu := HG2.out.i.cell pu (bls_at _ hx1)
              have cv := HG2.out.i.cell pv (bls_at _ hx2)
              have hfr := HG2.out.i.free pv
              cases x1 with
              | false =>
                have HP2 := Lib.hid (HKU.out (fun h => by rw [hx1] at h; cases h))
                clear hx1 hx2 HKU HKV
                go_wp2
                go_roundg k1
                case measure => have := HKK.out; omega
                case rel => exact ⟨k + 1, again, rb', rfl, by go_num, Lib.hid ⟨by have := HKK.out; omega, HG2.out, HP2.out⟩⟩
              | true =>
                cases x2 with
                | true =>
                  have HP2 := Lib.hid (HKU.out (fun _ => hx2))
                  clear hx1 hx2 HKU HKV
                  go_wp2
                  go_roundg k1
                  case measure => have := HKK.out; omega
                  case rel => exact ⟨k + 1, again, rb', rfl, by go_num, Lib.hid ⟨by have := HKK.out; omega, HG2.out, HP2.out⟩⟩
                | false =>
                  have HP2 := Lib.hid (HKV.out hx1 hx2)
                  have HG3 := Lib.hid (HG2.out.set pv true)
                  clear hx1 hx2 HKU HKV HG2
                  go_wp2
                  go_roundg k1
                  case measure => have := HKK.out; omega
                  case rel => exact ⟨k + 1, true, rb'.set pv true, rfl, by go_num, Lib.hid ⟨by have := HKK.out; omega, HG3.out, HP2.out⟩⟩
            · obtain rfl : k = R.length := by omega
              have HG := Lib.hid hG
              have HP := Lib.hid hP
              clear hG hP hkk hk
              go_wp2
              go_roundg (if again = true then rb'.count false + 1 else 0)
              case measure =>
                cases again with
                | true => have := HP.out.yes rfl; rw [if_pos rfl]; omega
                | false => rw [if_neg (by decide)]; omega
              case rel => exact ⟨again, rb', rfl, Lib.hid ⟨HG.out, HP.out.snd, fun h => (HP.out.no h).2, rfl⟩⟩

end Go.Proofs.Ythomnpgpbhpojaa.Lw
