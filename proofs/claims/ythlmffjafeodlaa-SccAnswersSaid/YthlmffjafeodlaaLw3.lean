/- Cut. -/
import Derived.Test.YthlmffjafeodlaaLw2
import Derived.Great.BuildSlice
namespace Go.Proofs.Ythlmffjafeodlaa.Lw
open Go Go.RowKit Go.Proofs.Ythlmffjafeodlaa.Mem Go.Proofs.Ythlmffjafeodlaa.Sl Go.Proofs.YthlmffjafeodlaaW.PrintWords Go.Proofs.YthlmffjafeodlaaW.PrintLast
attribute [local go_sem ↓] Go.wp_at_zero Go.wp_at_succ
set_option linter.unusedSimpArgs false
set_option linter.unusedVariables false

/-- A slice that is handed in: n elements' cells can be read. -/
def ArgV (w : World) (v : Value) (n size : Nat) (news : List Value) : Prop :=
  news.length = n * size ∧ (∀ u ∈ news, u.oneCell' = true) ∧ ((v = .slice none 0 0 ∧ n = 0) ∨ ∃ ad c, v = .slice (some ad) n c ∧ n ≤ c ∧ ∀ j u, news[j]? = some u → w.cell? (ad.add j) = some u)
theorem ArgV.rd {w : World} {v : Value} {n size : Nat} {news : List Value} (h : ArgV w v n size news) : RdV w v n size news :=
  ⟨h.1, h.2.1, h.2.2.imp id (fun ⟨ad, c, e, _, hc⟩ => ⟨ad, c, e, hc⟩)⟩

/-- 'v[:m]'. -/
theorem ArgV.take {w : World} {A : Option Addr} {c n size m : Nat} {news : List Value} (h : ArgV w (.slice A n c) n size news) (hm : m ≤ n) : RdV w (.slice A m c) m size (news.take (m * size)) ∧ n ≤ c := by
  obtain ⟨hl, h1, h2⟩ := h
  have hlt : (news.take (m * size)).length = m * size := by
    rw [List.length_take, hl]
    exact Nat.min_eq_left (Nat.mul_le_mul_right _ hm)
  have h1' : ∀ u ∈ news.take (m * size), u.oneCell' = true := fun u hu => h1 u (List.mem_of_mem_take hu)
  rcases h2 with ⟨he, rfl⟩ | ⟨ad, c', he, hnc, hc⟩
  · cases he
    obtain rfl : m = 0 := by omega
    exact ⟨⟨hlt, h1', .inl ⟨rfl, rfl⟩⟩, Nat.le_refl _⟩
  · cases he
    refine ⟨⟨hlt, h1', .inr ⟨ad, c, rfl, fun j u hu => ?_⟩⟩, hnc⟩
    rw [List.getElem?_take] at hu
    split at hu
    · exact hc j u hu
    · cases hu

theorem own_made {w : World} {base k size : Nat} {T : TypeId} (hk : w.heap.size = k) (hb : base ≤ w.heap.size) : (w.alloc (.cells #[] T)).ownsRow base T size (.slice (some ⟨k, 0, none⟩) 0 0) 0 [] := by
  subst hk
  exact World.ownsRow_lit w #[] 0 hb (by decide) (by simp)

theorem info_int : (Try.prog.info? 3).map (fun i => (i.zero, i.size, i.bytes)) = some (some (.int .i64 0), 1, 8) := by kernel_rfl
theorem info_arc : (Try.prog.info? 34).map (fun i => (i.zero, i.size, i.bytes)) = some (some (.agg #[.int .i64 0, .int .i64 0]), 2, 16) := by kernel_rfl

/-- An empty slice literal: a new row of its own. -/
theorem build0_ {P : Program} {ops : Array Oper} {oi : Oper} {N : Option Tmp} {a : Act} {w : World} {K : Act → World → Prop} {Q : Exit → Act → World → Prop} (t e : TypeId) (ie : TypeInfo) (size : Nat) (hw : Region.wanted oi (yielded ops a.tmps) = true) (hN : oi.dst = N)
    (hop : oi.op = .buildSlice t 0 #[]) (hu : P.underlying t = some (.slice e)) (hie : P.info? e = some ie) (_hz : ie.zero.isSome = true)
    (h : ∀ v w', w'.ownsRow w.heap.size e size v 0 [] → Below w.heap.size w w' → v.ownBlock = some w.heap.size → K (a.put N v) w') :
    if Region.wanted oi (yielded ops a.tmps) = true then Oper.wp P oi a w K Q else K (a.put N undef) w := by
  refine value_ (w1 := w.alloc (.cells #[] e)) (v := .slice (some ⟨w.heap.size, 0, none⟩) 0 0) hw hN ?_ (h _ _ (own_made rfl (Nat.le_refl _)) ((Below.refl _ _).alloc (Nat.le_refl _) _) rfl)
  unfold execOp
  have hr0 : Array.range 0 = #[] := by simp
  simp [hop, Instr.buildSlice, run_underlying hu, sizeOf, typeInfo, hie, Instr.fill, newRow, hr0]

/-- One row of its own behind w0. -/
structure One (w0 : World) (e : TypeId) (size : Nat) (v : Value) (n : Nat) (xs : List Value) (W : World) : Prop where
  r : W.ownsRow w0.heap.size e size v n xs
  b : Below w0.heap.size w0 W
/-- Two rows of their own, apart. -/
structure Two (w0 : World) (e1 : TypeId) (s1 : Nat) (v1 : Value) (n1 : Nat) (xs1 : List Value) (e2 : TypeId) (s2 : Nat) (v2 : Value) (n2 : Nat) (xs2 : List Value) (W : World) : Prop where
  r1 : W.ownsRow w0.heap.size e1 s1 v1 n1 xs1
  r2 : W.ownsRow w0.heap.size e2 s2 v2 n2 xs2
  ne : ∀ k, v1.ownBlock = some k → v2.ownBlock ≠ some k
  b : Below w0.heap.size w0 W
section
variable {w0 w w' : World} {e e1 e2 : TypeId} {s s1 s2 : Nat} {v v1 v2 : Value} {n n1 n2 : Nat} {xs xs1 xs2 : List Value}
theorem own_mono {B B' : Nat} (h : w.ownsRow B e s v n xs) (hb : B' ≤ B) : w.ownsRow B' e s v n xs :=
  ⟨h.1, h.2.imp id fun ⟨g, cap, cur, a1, a2, a3⟩ => ⟨g, cap, cur, a1, Nat.le_trans hb a2, a3⟩⟩
theorem own_below {B : Nat} (h : w.ownsRow B e s v n xs) (hb : Below w.heap.size w w') : w'.ownsRow B e s v n xs :=
  h.kept (row := none) ⟨hb.os, hb.tape, hb.output, hb.size, fun k hk _ => hb.block k hk⟩ (by cases v.ownBlock <;> simp)
theorem One.make (h0 : Below w0.heap.size w0 w) (h : w'.ownsRow w.heap.size e s v 0 []) (hb : Below w.heap.size w w') : One w0 e s v 0 [] w' :=
  ⟨own_mono h h0.size, h0.trans (hb.mono h0.size)⟩
theorem One.below (h : One w0 e s v n xs w) (hb : Below w.heap.size w w') : One w0 e s v n xs w' := ⟨own_below h.r hb, h.b.trans (hb.mono h.b.size)⟩
theorem Two.below (h : Two w0 e1 s1 v1 n1 xs1 e2 s2 v2 n2 xs2 w) (hb : Below w.heap.size w w') : Two w0 e1 s1 v1 n1 xs1 e2 s2 v2 n2 xs2 w' := ⟨own_below h.r1 hb, own_below h.r2 hb, h.ne, h.b.trans (hb.mono h.b.size)⟩
theorem Two.swap (h : Two w0 e1 s1 v1 n1 xs1 e2 s2 v2 n2 xs2 w) : Two w0 e2 s2 v2 n2 xs2 e1 s1 v1 n1 xs1 w := ⟨h.r2, h.r1, fun k h2 h1 => h.ne k h1 h2, h.b⟩
theorem One.and (h : One w0 e1 s1 v1 n1 xs1 w) (h2 : w'.ownsRow w.heap.size e2 s2 v2 0 []) (hb : Below w.heap.size w w') (hv : v2.ownBlock = some w.heap.size) : Two w0 e1 s1 v1 n1 xs1 e2 s2 v2 0 [] w' :=
  ⟨own_below h.r hb, own_mono h2 h.b.size, fun k hk hk2 => by
    have := (h.r.lt k hk).2
    rw [hv] at hk2
    cases hk2
    omega, h.b.trans (hb.mono h.b.size)⟩
theorem One.grow (h : One w0 e s v n xs w) {v' : Value} {n' : Nat} {xs' : List Value} (ho : w'.ownsRow w0.heap.size e s v' n' xs') (hg : w.grownBy w' v.ownBlock) : One w0 e s v' n' xs' w' :=
  ⟨ho, h.b.grown hg h.b.size fun k hk => (h.r.lt k hk).1⟩
theorem Two.grow1 (h : Two w0 e1 s1 v1 n1 xs1 e2 s2 v2 n2 xs2 w) {v' : Value} {n' : Nat} {xs' : List Value} (ho : w'.ownsRow w0.heap.size e1 s1 v' n' xs') (hg : w.grownBy w' v1.ownBlock) (hn : v'.ownBlock = v1.ownBlock ∨ v'.ownBlock = some w.heap.size) :
    Two w0 e1 s1 v' n' xs' e2 s2 v2 n2 xs2 w' := by
  refine ⟨ho, h.r2.kept hg ?_, ?_, h.b.grown hg h.b.size fun k hk => (h.r1.lt k hk).1⟩
  · cases hv : v2.ownBlock with
    | none => exact .inl rfl
    | some k => exact .inr fun hh => h.ne k hh.symm hv
  · intro k hk hk2
    rcases hn with hn | hn
    · exact h.ne k (hn ▸ hk) hk2
    · rw [hn] at hk
      cases hk
      have := (h.r2.lt _ hk2).2
      omega
theorem Two.grow2 (h : Two w0 e1 s1 v1 n1 xs1 e2 s2 v2 n2 xs2 w) {v' : Value} {n' : Nat} {xs' : List Value} (ho : w'.ownsRow w0.heap.size e2 s2 v' n' xs') (hg : w.grownBy w' v2.ownBlock) (hn : v'.ownBlock = v2.ownBlock ∨ v'.ownBlock = some w.heap.size) :
    Two w0 e1 s1 v1 n1 xs1 e2 s2 v' n' xs' w' := (h.swap.grow1 ho hg hn).swap
end

def tb9_1.T1 : Bool × List (List Nat × List Nat) := (true, [([], []), ([], []), ([], []), ([2], [2]), ([3], [3]), ([1, 4], [1, 4]), ([0, 5], [0, 5]), ([], []), ([], []), ([], []), ([9], [9]), ([10], [10]), ([8, 11], [8, 11]), ([7, 12, 6], [7, 12]), ([6, 13, 0, 1, 2, 3, 4, 5, 6], [6]), ([13, 14, 0, 1, 2, 3, 4, 5, 6, 7, 8, 9, 10, 11, 12, 13, 14], [13])])
def tb9_1.B1 : List Nat := [0, 0, 0, 4, 12, 30, 63, 0, 0, 0, 512, 1536, 3840, 8191, 16383, 32767]
theorem tb9_1.tab1 : rtab .any (opsOf Try.f9 1) = tb9_1.T1 := by kernel_rfl
theorem tb9_1.bits1 : waitsOk tb9_1.T1.2 tb9_1.B1 = true := by kernel_rfl
set_option maxHeartbeats 4000000 in
set_option maxRecDepth 100000 in
theorem cut_calls (w : World) (a1 a2 : Value) (n m : Nat) (xs ys : List Value) (h1 : ArgV w a1 n 1 xs) (h2 : ArgV w a2 m 2 ys) :
    Calls Try.prog 9 #[a1, a2] w fun e w' => ∃ v1 v2, e = .returned (.tuple #[v1, v2]) ∧ Two w 3 1 v1 (min n 60) (xs.take (min n 60)) 34 2 v2 (min m 240) (ys.take (min m 240 * 2)) w' := by
  obtain ⟨q1, hq1⟩ : ∃ q, min n 60 = q := ⟨_, rfl⟩
  obtain ⟨q2, hq2⟩ : ∃ q, min m 240 = q := ⟨_, rfl⟩
  have hsh : ∀ {a : Value} {n size : Nat} {xs : List Value}, ArgV w a n size xs → ∃ A c, a = .slice A n c := by
    rintro a n size xs ⟨_, _, ⟨rfl, rfl⟩ | ⟨ad, c, rfl, _⟩⟩
    · exact ⟨none, 0, rfl⟩
    · exact ⟨some ad, c, rfl⟩
  obtain ⟨A1, c1, rfl⟩ := hsh h1
  obtain ⟨A2, c2, rfl⟩ := hsh h2
  obtain ⟨d1, hc1⟩ := h1.take (m := q1) (by omega)
  obtain ⟨d2, hc2⟩ := h2.take (m := q2) (by omega)
  have e1 : min (n : Int) 60 = (q1 : Int) := by omega
  have e2 : min (m : Int) 240 = (q2 : Int) := by omega
  have g1 : (0 : Int) ≤ (q1 : Int) := by omega
  have g2 : (0 : Int) ≤ (q2 : Int) := by omega
  have g3 : (q1 : Int) ≤ (c1 : Int) := by omega
  have g4 : (q2 : Int) ≤ (c2 : Int) := by omega
  obtain ⟨i1, hi1, hz1, hs1, hb1⟩ := info_parts info_int
  obtain ⟨i2, hi2, hz2, hs2, hb2⟩ := info_parts info_arc
  rw [hq1, hq2]
  rw [Nat.mul_one] at d1
  have hb60 : q1 ≤ 60 := by omega
  have hb240 : q2 ≤ 240 := by omega
  have hb0 : Below w.heap.size w w.drew := (Below.refl _ _).drew
  have HD := Lib.hid (And.intro d1 d2)
  clear h1 h2 hsh d1 d2 hq1 hq2 hc1 hc2
  go_enter Try.func9, Try.ntmps9
  go_upto_region 1 with (fail)
  refine start_ (n := 16) (S := fun w' => True) (ds := []) #[false, false, false, false, false, false, false, false, false, false, false, false, false, false, false, false] (by kernel_rfl) rfl rfl trivial (fun hHeld => ?_)
  refine with_tabW tb9_1.tab1 tb9_1.bits1 (fun HT_ HW_ => ?_)
  refine pure_ (i := 1) (N := some 7) (v := ?_) (a' := ?_) #[false, true, false, false, false, false, false, false, false, false, false, false, false, false, false, false] rfl rfl (any_of HT_.out (by kernel_rfl)) (fun _ _ _ h => h) (Or.inl ⟨by rfl, ?_⟩) ?_ ?_
  rotate_left
  · intro w'
    go_simp
    with_reducible rfl
  rotate_left
  · simp only [Act.put, List.setIfInBounds_toArray, List.set_cons_zero, List.set_cons_succ, i64_w, i32_w]
    rfl
  refine pure_ (i := 2) (N := some 8) (v := ?_) (a' := ?_) #[false, true, true, false, false, false, false, false, false, false, false, false, false, false, false, false] rfl rfl (any_of HT_.out (by kernel_rfl)) (fun _ _ _ h => h) (Or.inl ⟨by rfl, ?_⟩) ?_ ?_
  rotate_left
  · intro w'
    go_simp
    with_reducible rfl
  rotate_left
  · simp only [Act.put, List.setIfInBounds_toArray, List.set_cons_zero, List.set_cons_succ, i64_w, i32_w]
    rfl
  refine pure_ (i := 3) (N := some 9) (v := ?_) (a' := ?_) #[false, true, true, true, false, false, false, false, false, false, false, false, false, false, false, false] rfl rfl (any_of HT_.out (by kernel_rfl)) (fun _ _ _ h => h) (Or.inl ⟨by rfl, ?_⟩) ?_ ?_
  rotate_left
  · intro w'
    go_simp
    with_reducible rfl
  rotate_left
  · simp only [Act.put, List.setIfInBounds_toArray, List.set_cons_zero, List.set_cons_succ, i64_w, i32_w]
    rfl
  refine pure_ (i := 4) (N := some 10) (v := ?_) (a' := ?_) #[false, true, true, true, true, false, false, false, false, false, false, false, false, false, false, false] rfl rfl (any_of HT_.out (by kernel_rfl)) (fun _ _ _ h => h) (Or.inl ⟨by rfl, ?_⟩) ?_ ?_
  rotate_left
  · intro w'
    go_simp
    with_reducible rfl
  rotate_left
  · simp only [Act.put, List.setIfInBounds_toArray, List.set_cons_zero, List.set_cons_succ, i64_w, i32_w]
    rfl
  refine pure_ (i := 5) (N := some 11) (v := ?_) (a' := ?_) #[false, true, true, true, true, true, false, false, false, false, false, false, false, false, false, false] rfl rfl (any_of HT_.out (by kernel_rfl)) (fun _ _ _ h => h) (Or.inl ⟨by rfl, ?_⟩) ?_ ?_
  rotate_left
  · intro w'
    go_simp
    with_reducible rfl
  rotate_left
  · simp only [Act.put, List.setIfInBounds_toArray, List.set_cons_zero, List.set_cons_succ, i64_w, i32_w]
    rfl
  refine pure_ (i := 8) (N := some 14) (v := ?_) (a' := ?_) #[false, true, true, true, true, true, false, false, true, false, false, false, false, false, false, false] rfl rfl (any_of HT_.out (by kernel_rfl)) (fun _ _ _ h => h) (Or.inl ⟨by rfl, ?_⟩) ?_ ?_
  rotate_left
  · intro w'
    go_simp
    with_reducible rfl
  rotate_left
  · simp only [Act.put, List.setIfInBounds_toArray, List.set_cons_zero, List.set_cons_succ, i64_w, i32_w]
    rfl
  refine pure_ (i := 9) (N := some 15) (v := ?_) (a' := ?_) #[false, true, true, true, true, true, false, false, true, true, false, false, false, false, false, false] rfl rfl (any_of HT_.out (by kernel_rfl)) (fun _ _ _ h => h) (Or.inl ⟨by rfl, ?_⟩) ?_ ?_
  rotate_left
  · intro w'
    go_simp
    with_reducible rfl
  rotate_left
  · simp only [Act.put, List.setIfInBounds_toArray, List.set_cons_zero, List.set_cons_succ, i64_w, i32_w]
    rfl
  refine pure_ (i := 10) (N := some 16) (v := ?_) (a' := ?_) #[false, true, true, true, true, true, false, false, true, true, true, false, false, false, false, false] rfl rfl (any_of HT_.out (by kernel_rfl)) (fun _ _ _ h => h) (Or.inl ⟨by rfl, ?_⟩) ?_ ?_
  rotate_left
  · intro w'
    go_simp
    with_reducible rfl
  rotate_left
  · simp only [Act.put, List.setIfInBounds_toArray, List.set_cons_zero, List.set_cons_succ, i64_w, i32_w]
    rfl
  refine pure_ (i := 11) (N := some 17) (v := ?_) (a' := ?_) #[false, true, true, true, true, true, false, false, true, true, true, true, false, false, false, false] rfl rfl (any_of HT_.out (by kernel_rfl)) (fun _ _ _ h => h) (Or.inl ⟨by rfl, ?_⟩) ?_ ?_
  rotate_left
  · intro w'
    go_simp
    with_reducible rfl
  rotate_left
  · simp only [Act.put, List.setIfInBounds_toArray, List.set_cons_zero, List.set_cons_succ, i64_w, i32_w]
    rfl
  refine pure_ (i := 12) (N := some 18) (v := ?_) (a' := ?_) #[false, true, true, true, true, true, false, false, true, true, true, true, true, false, false, false] rfl rfl (any_of HT_.out (by kernel_rfl)) (fun _ _ _ h => h) (Or.inl ⟨by rfl, ?_⟩) ?_ ?_
  rotate_left
  · intro w'
    go_simp
    with_reducible rfl
  rotate_left
  · simp only [Act.put, List.setIfInBounds_toArray, List.set_cons_zero, List.set_cons_succ, i64_w, i32_w]
    rfl
  refine join_ (σ := Value × Value × Value) 3 #[true, true, true, true, true, true, true, true, true, true, true, true, true, false, false, false] (fun s => [(6, s.1), (12, s.2.1), (13, s.2.2)]) (fun s w' => Two w 3 1 s.2.1 q1 (xs.take q1) 34 2 s.2.2 0 [] w') ?_ ?_
  rotate_left
  · intro hCont
    refine two_ (i := 0) (j := 7) (Ni := some 6) (Nj := some 13) #[true, true, true, true, true, true, false, false, true, true, true, true, true, false, false, false] #[false, true, true, true, true, true, false, true, true, true, true, true, true, false, false, false] rfl rfl rfl rfl (two_of HT_.out (by kernel_rfl)) (by decide) (by decide) (fun K hK => ?_) (fun K hK => ?_)
    · skip
      refine build0_ 22 3 i1 1 (by rfl) rfl rfl Try.underlying22 hi1 (by rw [hz1]; rfl) ?_
      intro v6 wB6 hr6 hb6 hv6
      have hS0 := One.make hb0 hr6 hb6
      refine hK.out _ _ trivial (fun hHeld => ?_)
      clear hK K
      refine norm_ (a' := ?_) ?_ ?_
      rotate_left
      · show Act.put _ (some 6) _ = _
        simp only [Act.put, List.setIfInBounds_toArray, List.set_cons_zero, List.set_cons_succ, i64_w, i32_w]
        rfl
      refine two_ (i := 6) (j := 7) (Ni := some 12) (Nj := some 13) #[true, true, true, true, true, true, true, false, true, true, true, true, true, false, false, false] #[true, true, true, true, true, true, false, true, true, true, true, true, true, false, false, false] rfl rfl rfl rfl (two_of HT_.out (by kernel_rfl)) (by decide) (by decide) (fun K hK => ?_) (fun K hK => ?_)
      · skip
        refine step_append_any rfl (.tmp 6) (.tmp 11) 22 rfl w.heap.size 3 i1 (.int .i64 0) 1 8 Try.underlying22 hi1 hz1 hs1 hb1 rfl (by omega) _ 0 [] rfl hS0.r _ rfl q1 (xs.take q1) (HD.out.1.below hS0.b) (by unfold maxLen; omega) (by omega) hS0.b.size ?_
        intro v12 wC ho12 hg12 hn12
        rw [Nat.zero_add, List.nil_append] at ho12
        have hS1 := hS0.grow ho12 hg12
        refine hK.out _ _ trivial (fun hHeld => ?_)
        clear hK K
        refine norm_ (a' := ?_) ?_ ?_
        rotate_left
        · show Act.put _ (some 12) _ = _
          simp only [Act.put, List.setIfInBounds_toArray, List.set_cons_zero, List.set_cons_succ, i64_w, i32_w]
          rfl
        refine one_ (i := 7) (N := some 13) #[true, true, true, true, true, true, true, true, true, true, true, true, true, false, false, false] rfl rfl (one_of HT_.out (by kernel_rfl)) (by decide) (fun K hK => ?_)
        refine build0_ 23 34 i2 2 (by rfl) rfl rfl Try.underlying23 hi2 (by rw [hz2]; rfl) ?_
        intro v13 wB13 hr13 hb13 hv13
        have hS2 := hS1.and hr13 hb13 hv13
        refine hK.out _ _ trivial (fun hHeld => ?_)
        clear hK K
        refine norm_ (a' := ?_) ?_ ?_
        rotate_left
        · show Act.put _ (some 13) _ = _
          simp only [Act.put, List.setIfInBounds_toArray, List.set_cons_zero, List.set_cons_succ, i64_w, i32_w]
          rfl
        exact norm_ (by simp only [putAll, Act.put, List.setIfInBounds_toArray, List.set_cons_zero, List.set_cons_succ]) (hCont (v6, v12, v13) _ hS2)
      · skip
        refine build0_ 23 34 i2 2 (by rfl) rfl rfl Try.underlying23 hi2 (by rw [hz2]; rfl) ?_
        intro v13 wB13 hr13 hb13 hv13
        have hS1 := hS0.and hr13 hb13 hv13
        refine hK.out _ _ trivial (fun hHeld => ?_)
        clear hK K
        refine norm_ (a' := ?_) ?_ ?_
        rotate_left
        · show Act.put _ (some 13) _ = _
          simp only [Act.put, List.setIfInBounds_toArray, List.set_cons_zero, List.set_cons_succ, i64_w, i32_w]
          rfl
        refine one_ (i := 6) (N := some 12) #[true, true, true, true, true, true, true, true, true, true, true, true, true, false, false, false] rfl rfl (one_of HT_.out (by kernel_rfl)) (by decide) (fun K hK => ?_)
        refine step_append_any rfl (.tmp 6) (.tmp 11) 22 rfl w.heap.size 3 i1 (.int .i64 0) 1 8 Try.underlying22 hi1 hz1 hs1 hb1 rfl (by omega) _ 0 [] rfl hS1.r1 _ rfl q1 (xs.take q1) (HD.out.1.below hS1.b) (by unfold maxLen; omega) (by omega) hS1.b.size ?_
        intro v12 wC ho12 hg12 hn12
        rw [Nat.zero_add, List.nil_append] at ho12
        have hS2 := hS1.grow1 ho12 hg12 hn12
        refine hK.out _ _ trivial (fun hHeld => ?_)
        clear hK K
        refine norm_ (a' := ?_) ?_ ?_
        rotate_left
        · show Act.put _ (some 12) _ = _
          simp only [Act.put, List.setIfInBounds_toArray, List.set_cons_zero, List.set_cons_succ, i64_w, i32_w]
          rfl
        exact norm_ (by simp only [putAll, Act.put, List.setIfInBounds_toArray, List.set_cons_zero, List.set_cons_succ]) (hCont (v6, v12, v13) _ hS2)
    · skip
      refine build0_ 23 34 i2 2 (by rfl) rfl rfl Try.underlying23 hi2 (by rw [hz2]; rfl) ?_
      intro v13 wB13 hr13 hb13 hv13
      have hS0 := One.make hb0 hr13 hb13
      refine hK.out _ _ trivial (fun hHeld => ?_)
      clear hK K
      refine norm_ (a' := ?_) ?_ ?_
      rotate_left
      · show Act.put _ (some 13) _ = _
        simp only [Act.put, List.setIfInBounds_toArray, List.set_cons_zero, List.set_cons_succ, i64_w, i32_w]
        rfl
      refine one_ (i := 0) (N := some 6) #[true, true, true, true, true, true, false, true, true, true, true, true, true, false, false, false] rfl rfl (one_of HT_.out (by kernel_rfl)) (by decide) (fun K hK => ?_)
      refine build0_ 22 3 i1 1 (by rfl) rfl rfl Try.underlying22 hi1 (by rw [hz1]; rfl) ?_
      intro v6 wB6 hr6 hb6 hv6
      have hS1 := (hS0.and hr6 hb6 hv6).swap
      refine hK.out _ _ trivial (fun hHeld => ?_)
      clear hK K
      refine norm_ (a' := ?_) ?_ ?_
      rotate_left
      · show Act.put _ (some 6) _ = _
        simp only [Act.put, List.setIfInBounds_toArray, List.set_cons_zero, List.set_cons_succ, i64_w, i32_w]
        rfl
      refine one_ (i := 6) (N := some 12) #[true, true, true, true, true, true, true, true, true, true, true, true, true, false, false, false] rfl rfl (one_of HT_.out (by kernel_rfl)) (by decide) (fun K hK => ?_)
      refine step_append_any rfl (.tmp 6) (.tmp 11) 22 rfl w.heap.size 3 i1 (.int .i64 0) 1 8 Try.underlying22 hi1 hz1 hs1 hb1 rfl (by omega) _ 0 [] rfl hS1.r1 _ rfl q1 (xs.take q1) (HD.out.1.below hS1.b) (by unfold maxLen; omega) (by omega) hS1.b.size ?_
      intro v12 wC ho12 hg12 hn12
      rw [Nat.zero_add, List.nil_append] at ho12
      have hS2 := hS1.grow1 ho12 hg12 hn12
      refine hK.out _ _ trivial (fun hHeld => ?_)
      clear hK K
      refine norm_ (a' := ?_) ?_ ?_
      rotate_left
      · show Act.put _ (some 12) _ = _
        simp only [Act.put, List.setIfInBounds_toArray, List.set_cons_zero, List.set_cons_succ, i64_w, i32_w]
        rfl
      exact norm_ (by simp only [putAll, Act.put, List.setIfInBounds_toArray, List.set_cons_zero, List.set_cons_succ]) (hCont (v6, v12, v13) _ hS2)
  rintro ⟨v6, v12, v13⟩ wD hS3
  simp only at hS3
  have hHeld : True := trivial
  refine norm_ (a' := ?_) ?_ ?_
  rotate_left
  · simp only [putAll, Act.put, List.setIfInBounds_toArray, List.set_cons_zero, List.set_cons_succ]
    rfl
  refine one_ (i := 13) (N := some 19) #[true, true, true, true, true, true, true, true, true, true, true, true, true, true, false, false] rfl rfl (one_of HT_.out (by kernel_rfl)) (by decide) (fun K hK => ?_)
  refine step_append_any rfl (.tmp 13) (.tmp 18) 23 rfl w.heap.size 34 i2 (.agg #[.int .i64 0, .int .i64 0]) 2 16 Try.underlying23 hi2 hz2 hs2 hb2 rfl (by omega) _ 0 [] rfl hS3.r2 _ rfl q2 (ys.take (q2 * 2)) (HD.out.2.below hS3.b) (by unfold maxLen; omega) (by omega) hS3.b.size ?_
  intro v19 wE ho19 hg19 hn19
  rw [Nat.zero_add, List.nil_append] at ho19
  have hS4 := hS3.grow2 ho19 hg19 hn19
  refine hK.out _ _ trivial (fun hHeld => ?_)
  clear hK K
  refine norm_ (a' := ?_) ?_ ?_
  rotate_left
  · show Act.put _ (some 19) _ = _
    simp only [Act.put, List.setIfInBounds_toArray, List.set_cons_zero, List.set_cons_succ, i64_w, i32_w]
    rfl
  refine pure_ (i := 14) (N := some 4) (v := ?_) (a' := ?_) #[true, true, true, true, true, true, true, true, true, true, true, true, true, true, true, false] rfl rfl (any_of HT_.out (by kernel_rfl)) (fun _ _ _ h => h) (Or.inl ⟨by rfl, ?_⟩) ?_ ?_
  rotate_left
  · intro w'
    go_simp
    with_reducible rfl
  rotate_left
  · simp only [Act.put, List.setIfInBounds_toArray, List.set_cons_zero, List.set_cons_succ, i64_w, i32_w]
    rfl
  refine pure_ (i := 15) (N := some 5) (v := ?_) (a' := ?_) #[true, true, true, true, true, true, true, true, true, true, true, true, true, true, true, true] rfl rfl (any_of HT_.out (by kernel_rfl)) (fun _ _ _ h => h) (Or.inl ⟨by rfl, ?_⟩) ?_ ?_
  rotate_left
  · intro w'
    go_simp
    with_reducible rfl
  rotate_left
  · simp only [Act.put, List.setIfInBounds_toArray, List.set_cons_zero, List.set_cons_succ, i64_w, i32_w]
    rfl
  refine done_ (done_of HT_.out (by kernel_rfl)) ?_
  clear hHeld HT_ HW_
  go_wp2
  go_ret2
  exact ⟨_, _, rfl, hS4⟩

end Go.Proofs.Ythlmffjafeodlaa.Lw
