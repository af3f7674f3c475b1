/- brambleref11: leads, below. -/
import Derived.Test.YtdohfjidnbhfnaaGo30
import Derived.Test.YtdohfjidnbhfnaaGo32
namespace Go.Proofs.Ytdohfjidnbhfnaa.Rb
open Go Go.RowKit Go.Proofs.Ytdohfjidnbhfnaa.Mem Go.Proofs.Ytdohfjidnbhfnaa.Sl Go.Proofs.Ytdohfjidnbhfnaa.Scc Go.Proofs.Ytdohfjidnbhfnaa.Tj Go.Proofs.Ytdohfjidnbhfnaa.Lw Go.Proofs.Ytdohfjidnbhfnaa.Cv Go.Proofs.YtdohfjidnbhfnaaW.PrintWords Go.Proofs.YtdohfjidnbhfnaaW.PrintLast
attribute [local go_sem ↓] Go.wp_at_zero Go.wp_at_succ
set_option linter.unusedSimpArgs false
set_option linter.unusedVariables false

def nums (l : List Nat) : List Int := l.map fun i : Nat => (i : Int)
theorem nums_append (a b : List Nat) : nums (a ++ b) = nums a ++ nums b := by simp [nums]
theorem ints_append (a b : List Int) : ints (a ++ b) = ints a ++ ints b := by simp [ints]
theorem nums_at {l : List Nat} {i x : Nat} (h : l[i]? = some x) : (nums l)[i]? = some (x : Int) := by rw [nums, List.getElem?_map, h]; rfl
theorem mem_int {l : List Int} {u : Value} (h : u ∈ ints l) : u.oneCell' = true := by
  obtain ⟨x, _, rfl⟩ := List.mem_map.1 h
  rfl

def cV (A : Option Addr) (n c : Nat) (AE : Option Addr) (m ce : Nat) (AP : Option Addr) (np cp : Nat) (AQ : Option Addr) (nq cq : Nat) (AR : Option Addr) (nr cr : Nat) : Value :=
  .agg #[.slice A n c, .slice AE m ce, .int .i64 0, .int .i64 0, .slice AP np cp, .slice AQ nq cq, .slice AR nr cr]


set_option maxHeartbeats 8000000 in
set_option maxRecDepth 100000 in
theorem leads_calls (w : World) (A AE : Option Addr) (n cg ce : Nat) (R : List (Int × Int)) (u v : Int) (he : RdE w AE R) (hr : R.length ≤ 100000) :
    Calls Try.prog 31 #[gV A n cg (.slice AE R.length ce), .int .i64 u, .int .i64 v] w fun e w' => e = .returned (.bool (decide ((u, v) ∈ R))) ∧ Below w.heap.size w w' := by
  obtain ⟨ans, hans⟩ : ∃ ans, decide ((u, v) ∈ R) = ans := ⟨_, rfl⟩
  rw [hans]
  unfold gV
  have HE := Lib.hid he
  have HANS := Lib.hid hans
  clear he hans
  go_enter Try.func31, Try.ntmps31
  go_wp2_with fail
  refine gen_loopw (fun W => At W w.heap.size [.slice A n cg, .slice AE R.length ce, .int .i64 0, .int .i64 0] 27 ∧ Below w.heap.size w W) ?_ ?_
  · exact ⟨At.made rfl rfl, (Below.refl _ _).alloc (Nat.le_refl _) _⟩
  obtain ⟨gx, hgx⟩ : ∃ gx, w.heap.size = gx := ⟨_, rfl⟩
  rw [hgx]
  rintro w3 ⟨hat, hb⟩
  rw [← hgx] at hb
  have HAT := Lib.hid hat
  have HB := Lib.hid hb
  clear hat hb hgx
  go_loopg [7] R.length (fun kq v7 w' => ∃ j : Nat, v7 = .int .i64 (j : Int) ∧ Hid (j + kq = R.length ∧ (∃ q, w' = w3.drewN q) ∧ (u, v) ∉ R.take j))
  case atStart => exact ⟨0, rfl, Lib.hid ⟨by omega, ⟨0, rfl⟩, by simp⟩⟩
  case round =>
    obtain ⟨j, rfl, hI⟩ := hrel
    obtain ⟨hjk, ⟨q, rfl⟩, hall⟩ := hI.out
    clear hI
    have q1 : (w3.drewN q).cell? ⟨gx, 1, none⟩ = some (.slice AE R.length ce) := HAT.out.cell 1 rfl
    by_cases hj : j < R.length
    · obtain ⟨k1, rfl⟩ : ∃ k1, gk = k1 + 1 := ⟨gk - 1, by omega⟩
      obtain ⟨⟨a, b⟩, hxx⟩ : ∃ x, R[j] = x := ⟨_, rfl⟩
      have hx : R[j]? = some (a, b) := by rw [List.getElem?_eq_getElem hj, hxx]
      obtain ⟨be, rfl, qu', qv'⟩ := (HE.out.below HB.out) j a b hx
      have qu : (w3.drewN q).cell? ⟨be, j * 4 + 1, none⟩ = some (.int .i64 a) := qu'
      have qv : (w3.drewN q).cell? ⟨be, j * 4 + 2, none⟩ = some (.int .i64 b) := qv'
      have hsn : (u, v) ∈ R.take (j + 1) → (u, v) = (a, b) := by
        rw [List.take_add_one, hx]
        intro h
        rcases List.mem_append.1 h with h | h
        · exact absurd h hall
        · simpa using h
      have j0 : (0 : Int) ≤ (j : Int) := by omega
      have j1 : (j : Int) < (R.length : Int) := by omega
      have j2 : (R.length : Int) ≤ 100000 := by omega
      have HJK := Lib.hid hjk
      by_cases hau : a = u
      · by_cases hbv : b = v
        · have HA := Lib.hid (show ans = true by
            rw [← HANS.out, ← hau, ← hbv]
            exact decide_eq_true (List.mem_of_getElem? hx))
          have e1 : (a == u) = true := beq_iff_eq.2 hau
          have e2 : (b == v) = true := beq_iff_eq.2 hbv
          have HBX := Lib.hid HB.out
          clear hsn hx hxx hall hjk qu' qv' hj hau hbv
          go_wp2
          go_ret
          have hb := HBX.out
          exact ⟨by rw [HA.out]; rfl, ⟨hb.os, hb.tape, hb.output, hb.size, hb.block⟩⟩
        · have HSN := Lib.hid (show (u, v) ∉ R.take (j + 1) from fun h => hbv (by have := hsn h; cases this; rfl))
          have e1 : (a == u) = true := beq_iff_eq.2 hau
          have e2 : (b == v) = false := beq_eq_false_iff_ne.2 hbv
          clear hsn hx hxx hall hjk qu' qv' hj hau hbv
          go_wp2
          go_roundg k1
          case measure => have := HJK.out; omega
          case rel => exact ⟨j + 1, by go_num, Lib.hid ⟨by have := HJK.out; omega, ⟨q, rfl⟩, HSN.out⟩⟩
      · have HSN := Lib.hid (show (u, v) ∉ R.take (j + 1) from fun h => hau (by have := hsn h; cases this; rfl))
        have e1 : (a == u) = false := beq_eq_false_iff_ne.2 hau
        clear hsn hx hxx hall hjk qu' qv' hj hau
        go_wp2
        go_roundg k1
        case measure => have := HJK.out; omega
        case rel => exact ⟨j + 1, by go_num, Lib.hid ⟨by have := HJK.out; omega, ⟨q, rfl⟩, HSN.out⟩⟩
    · obtain rfl : j = R.length := by omega
      rw [List.take_length] at hall
      have HA := Lib.hid (show ans = false by rw [← HANS.out]; exact decide_eq_false hall)
      have HBX := Lib.hid HB.out
      clear hall hjk hj
      go_wp2
      go_ret
      have hb := HBX.out
      exact ⟨by rw [HA.out]; rfl, ⟨hb.os, hb.tape, hb.output, hb.size, hb.block⟩⟩

theorem kids_filter (pars : List Int) (u : Int) (i : Nat) (hi : i < pars.length) : ((List.range pars.length).drop i).filter (fun v => decide (pars.getD v 0 = u)) = if pars.getD i 0 = u then i :: ((List.range pars.length).drop (i + 1)).filter (fun v => decide (pars.getD v 0 = u)) else ((List.range pars.length).drop (i + 1)).filter (fun v => decide (pars.getD v 0 = u)) := by
  rw [List.drop_eq_getElem_cons (by simpa using hi), List.getElem_range, List.filter_cons]
  by_cases h : pars.getD i 0 = u
  · rw [if_pos h, if_pos (by simpa using h)]
  · rw [if_neg h, if_neg (by simpa using h)]

set_option maxHeartbeats 8000000 in
set_option maxRecDepth 100000 in
theorem belowR_calls (A : Option Addr) (n c : Nat) (AE : Option Addr) (m ce : Nat) (AP : Option Addr) (cp : Nat) (AQ : Option Addr) (nq cq : Nat) (AR : Option Addr) (nr cr : Nat) (pars : List Int) (rk : Nat → Nat) (hrk : Rk n pars rk) (hn : n ≤ 1000) : ∀ (k : Nat) (u : Int) (L : List Nat) (w : World),
    bel pars k u = some L → RdI w AP pars → L.length ≤ 1000 →
    Calls Try.prog 32 #[cV A n c AE m ce AP n cp AQ nq cq AR nr cr, .int .i64 u] w fun e w' => ∃ v, e = .returned v ∧ One w 3 1 v L.length (ints (nums L)) w' := by
  obtain ⟨i1, hi1, hz1, hs1, hy1⟩ := info_parts Lw.info_int
  intro k
  induction k with
  | zero => intro u L w hL; cases hL
  | succ k ih =>
    intro u L w hL hp hLl
    rw [bel] at hL
    unfold kidsOf at hL
    unfold cV at ih ⊢
    have hpl : pars.length = n := hrk.len
    have HX := Lib.hid (And.intro hL (And.intro hp hpl))
    clear hL hp hpl
    go_enter Try.func32, Try.ntmps32
    go_wp2_with fail
    refine gen_loopw (fun W => At W w.heap.size [.slice A n c, .slice AE m ce, .int .i64 0, .int .i64 0, .slice AP n cp, .slice AQ nq cq, .slice AR nr cr] 30 ∧ Below w.heap.size w W) ?_ ?_
    · exact ⟨At.made rfl rfl, (Below.refl _ _).alloc (Nat.le_refl _) _⟩
    obtain ⟨gx, hgx⟩ : ∃ gx, w.heap.size = gx := ⟨_, rfl⟩
    rw [hgx]
    rintro w3 ⟨hat, hb⟩
    rw [← hgx] at hb
    have HAT := Lib.hid hat
    have HB := Lib.hid hb
    clear hat hb hgx
    go_loopg [5, 6] n (fun kq v5 v6 w' => ∃ i : Nat, v6 = .int .i64 (i : Int) ∧ Hid (∃ acc rest, i + kq = n ∧ belL (bel pars k) (((List.range pars.length).drop i).filter fun v => decide (pars.getD v 0 = u)) = some rest ∧ L = acc ++ rest ∧ One w 3 1 v5 acc.length (ints (nums acc)) w' ∧ At w' gx [.slice A n c, .slice AE m ce, .int .i64 0, .int .i64 0, .slice AP n cp, .slice AQ nq cq, .slice AR nr cr] 30))
    case atStart => exact ⟨0, rfl, Lib.hid ⟨[], L, by omega, by rw [List.drop_zero]; exact HX.out.1, rfl, One.startAt HB.out, HAT.out⟩⟩
    case round =>
      clear HAT HB
      obtain ⟨i, rfl, hI⟩ := hrel
      obtain ⟨acc, rest, hik, hbl, hLa, hO, hat⟩ := hI.out
      clear hI
      have q0 := hat.cell 0 rfl
      have q1 := hat.cell 1 rfl
      have q2 := hat.cell 2 rfl
      have q3 := hat.cell 3 rfl
      have q4 := hat.cell 4 rfl
      have q5 := hat.cell 5 rfl
      have q6 := hat.cell 6 rfl
      by_cases hi : i < n
      · obtain ⟨k1, rfl⟩ : ∃ k1, gk = k1 + 1 := ⟨gk - 1, by omega⟩
        have hir : i < pars.length := by rw [HX.out.2.2]; exact hi
        obtain ⟨x, hx⟩ : ∃ x, pars[i]? = some x := ⟨_, List.getElem?_eq_getElem hir⟩
        rw [kids_filter pars u i hir, show pars.getD i 0 = x by rw [List.getD_eq_getElem?_getD, hx]; rfl] at hbl
        obtain ⟨b, rfl, cx⟩ := (HX.out.2.1.below hO.b) i x hx
        have i0 : (0 : Int) ≤ (i : Int) := by omega
        have i1' : (i : Int) < (n : Int) := by omega
        have i2 : (n : Int) ≤ 1000 := by omega
        by_cases hxu : x = u
        · rw [if_pos hxu] at hbl
          obtain ⟨a, bb, ha, hbb, hab⟩ := belL_cons hbl
          have hlen : acc.length + (a.length + 1 + bb.length) = L.length := by rw [hLa, hab]; simp; omega
          have hal : a.length ≤ 1000 := by omega
          have hcl : acc.length ≤ 1000 := by omega
          have hih := ih (i : Int) a wr ha (HX.out.2.1.below hO.b) hal
          have HIH := Lib.hid hih
          have e1 : (x == u) = true := beq_iff_eq.2 hxu
          have H1 := Lib.hid hO
          have H1X := Lib.hid hat
          have HP := Lib.hid (And.intro hik (And.intro hbb (hLa.trans (by rw [hab]))))
          clear hih hik hbl ha hbb hab hLa hxu hO hat hx hir hlen hi
          go_wp2_with fail
          refine HIH.out.mono ?_
          rintro e w2 ⟨v2, rfl, hO2⟩
          have hsz := H1.out.b.size
          have H2 := Lib.hid (And.intro (H1.out.below hO2.b) (Sp.RdV.of_own hO2.r (fun y hy => mem_int hy)))
          have H2X := Lib.hid (H1X.out.below hO2.b H1X.out.lt)
          clear hO2 HIH q0 q1 q2 q3 q4 q5 q6 cx hsz H1 H1X
          go_wp2_with ((at_builtin; first | (refine wpList_append_any rfl (.tmp 21) (.tmp 24) 24 rfl w.heap.size 3 i1 (.int .i64 0) 1 8 Try.underlying24 hi1 hz1 hs1 hy1 rfl (by omega) _ _ _ rfl H2.out.1.r _ rfl a.length (ints (nums a)) H2.out.2 (by unfold maxLen; omega) (by omega) (by have := H2.out.1.b.size; omega) ?_; intro v5 w5 ho hg hn; have hone := H2.out.1.grow ho hg; have hatw := H2X.out.grown hg (own_off H2.out.1.r H2X.out (by decide)); have H3 := Lib.hid hone; have H3X := Lib.hid hatw; clear ho hg hn hone hatw H2 H2X) | (refine wpList_append_any rfl (.tmp 26) (.tmp 28) 24 rfl w.heap.size 3 i1 (.int .i64 0) 1 8 Try.underlying24 hi1 hz1 hs1 hy1 rfl (by omega) _ _ _ rfl (H3.out.r.alloc (.cells #[.int .i64 (i : Int)] 3)) _ rfl 1 [.int .i64 (i : Int)] (RdV.lit _ #[.int .i64 (i : Int)] 3 1 1 1 rfl (by simp [Value.oneCell'])) (by unfold maxLen; omega) (by omega) (by have := H3.out.b.size; simp; omega) ?_; intro v6 w6 ho hg hn; have hone := (H3.out.below ((Below.refl _ _).alloc (Nat.le_refl _) (.cells #[.int .i64 (i : Int)] 3))).grow ho hg; have hatw := (H3X.out.al (o := .cells #[.int .i64 (i : Int)] 3)).grown hg (own_off (H3.out.r.alloc (.cells #[.int .i64 (i : Int)] 3)) H3X.out.al (by decide)); have H4 := Lib.hid hone; have H4X := Lib.hid hatw; clear ho hg hn hone hatw H3 H3X)))
          go_roundg k1
          case measure => omega
          case rel =>
            obtain ⟨hik, hbb, hLa⟩ := HP.out
            refine ⟨i + 1, by go_num, Lib.hid ⟨acc ++ a ++ [i], bb, by omega, hbb, by rw [hLa]; simp, ?_, H4X.out⟩⟩
            have h5 := H4.out
            rw [nums_append, nums_append, ints_append, ints_append, List.length_append, List.length_append]
            exact h5
        · rw [if_neg hxu] at hbl
          have e1 : (x == u) = false := beq_eq_false_iff_ne.2 hxu
          have H1 := Lib.hid hO
          have H1X := Lib.hid hat
          have HP := Lib.hid (And.intro hik (And.intro hbl hLa))
          clear hik hbl hLa hxu hO hat hx hir hi
          go_wp2
          go_roundg k1
          case measure => omega
          case rel =>
            obtain ⟨hik, hbb, hLa⟩ := HP.out
            exact ⟨i + 1, by go_num, Lib.hid ⟨acc, rest, by omega, hbb, hLa, H1.out, H1X.out⟩⟩
      · rw [List.drop_of_length_le (by rw [List.length_range, HX.out.2.2]; omega), List.filter_nil, belL] at hbl
        obtain rfl := Option.some.inj hbl
        rw [List.append_nil] at hLa
        subst hLa
        obtain rfl : n = i := by omega
        have HQ := Lib.hid hO
        clear hO hat hik hi hbl
        go_wp2
        go_ret
        exact ⟨_, rfl, HQ.out⟩

end Go.Proofs.Ytdohfjidnbhfnaa.Rb

/- brambleref11.Build: what is kept. -/
namespace Go.Proofs.Ytdohfjidnbhfnaa.Rb
open Go Go.RowKit Go.Proofs.Ytdohfjidnbhfnaa.Mem Go.Proofs.Ytdohfjidnbhfnaa.Sl Go.Proofs.Ytdohfjidnbhfnaa.Scc Go.Proofs.Ytdohfjidnbhfnaa.Tj Go.Proofs.Ytdohfjidnbhfnaa.Lw Go.Proofs.Ytdohfjidnbhfnaa.Cv Go.Proofs.YtdohfjidnbhfnaaW.PrintWords Go.Proofs.YtdohfjidnbhfnaaW.PrintLast
attribute [local go_sem ↓] Go.wp_at_zero Go.wp_at_succ
set_option linter.unusedSimpArgs false
set_option linter.unusedVariables false

def zC : List Value := [.slice none 0 0, .slice none 0 0, .int .i64 0, .int .i64 0, .slice none 0 0, .slice none 0 0, .slice none 0 0]

structure Off (g : Nat) (w w' : World) : Prop where
  os : w'.os = w.os
  tape : w'.tape = w.tape
  output : w'.output = w.output
  size : w'.heap.size = w.heap.size
  heap : ∀ k, k ≠ g → w'.heap[k]? = w.heap[k]?
section
variable {g : Nat} {w w' a b c : World} {cs cs' : List Value} {T e : TypeId}
theorem Off.refl (g : Nat) (w : World) : Off g w w := ⟨rfl, rfl, rfl, rfl, fun _ _ => rfl⟩
theorem Off.set (h : Off g a b) (i : Nat) (u : Value) : Off g a (b.setCell ⟨g, i, none⟩ u) :=
  ⟨h.os, h.tape, h.output, by simpa [World.setCell] using h.size, fun k hk => (heap_setCell_other b ⟨g, i, none⟩ k u hk).trans (h.heap k hk)⟩
theorem Off.drew (h : Off g a b) : Off g a b.drew := ⟨h.os, h.tape, h.output, h.size, h.heap⟩
theorem Off.at_ (h : Off g w w') {g' : Nat} (ha : At w g' cs T) (hne : g' ≠ g) : At w' g' cs T := (h.heap g' hne).trans ha
theorem Off.own (h : Off g w w') {base s k : Nat} {v : Value} {xs : List Value} (ho : w.ownsRow base e s v k xs) (hne : some g ≠ v.ownBlock) : w'.ownsRow base e s v k xs :=
  ho.kept (row := some g) ⟨h.os, h.tape, h.output, Nat.le_of_eq h.size.symm, fun m _ hm => h.heap m (fun e => hm (by rw [e]))⟩ (.inr fun e => hne e.symm)
theorem Off.ownT (h : Off g w w') {base s k : Nat} {v : Value} {xs : List Value} (ho : w.ownsRow base e s v k xs) (ha : At w g cs T) (hne : T ≠ e) : w'.ownsRow base e s v k xs := h.own ho (own_off ho ha hne)
theorem Off.below (h : Off g w w') {B : Nat} (hB : B ≤ g) (hs : B ≤ w.heap.size) : Below B w w' := ⟨h.os, h.tape, h.output, Nat.le_of_eq h.size.symm, fun k hk => h.heap k (by omega)⟩
theorem Off.cell (h : Off g w w') {b i : Nat} {v : Value} (hc : w.cell? ⟨b, i, none⟩ = some v) (hne : b ≠ g) : w'.cell? ⟨b, i, none⟩ = some v :=
  (World.cell?_of_block (w := w) (h.heap b hne)).trans hc
theorem Off.rdC (h : Off g w w') {A : Option Addr} {n : Nat} {E : Nat → Nat → Prop} (hr : RdC w A n E) (ha : At w g cs T) (hnb : ∀ y, Value.bool y ∉ cs) (h1 : 0 < n → ∀ b, A = some ⟨b, 0, none⟩ → b ≠ g) : RdC w' A n E := fun i hi => by
  obtain ⟨b, B, cB, e1, e2, e3⟩ := hr i hi
  refine ⟨b, B, cB, e1, h.cell e2 (h1 (by omega) b e1), fun x hx => h.cell (e3 x hx) ?_⟩
  rintro rfl
  have := e3 x hx
  rw [ha.cell?] at this
  exact hnb _ (List.mem_of_getElem? this)
end

structure Old (W : World) (B s : Nat) (e : TypeId) (size : Nat) (v : Value) (n : Nat) (xs : List Value) : Prop where
  o : W.ownsRow B e size v n xs
  lt : ∀ k, v.ownBlock = some k → k < s
section
variable {W W' : World} {B s size n : Nat} {e : TypeId} {v : Value} {xs : List Value}
theorem Old.mk' (h : W.ownsRow B e size v n xs) : Old W B W.heap.size e size v n xs := ⟨h, fun k hk => (h.lt k hk).2⟩
theorem Old.below (h : Old W B s e size v n xs) (hb : Below W.heap.size W W') : Old W' B s e size v n xs := ⟨own_below h.o hb, h.lt⟩
theorem Old.al (h : Old W B s e size v n xs) {o : Obj} : Old (W.alloc o) B s e size v n xs := ⟨h.o.alloc o, h.lt⟩
theorem Old.drew (h : Old W B s e size v n xs) : Old W.drew B s e size v n xs := ⟨h.o, h.lt⟩
theorem Old.grown (h : Old W B s e size v n xs) {e2 : TypeId} {s2 n2 B2 : Nat} {v2 : Value} {xs2 : List Value} (h2 : W.ownsRow B2 e2 s2 v2 n2 xs2) (hB : s ≤ B2) (hg : W.grownBy W' v2.ownBlock) : Old W' B s e size v n xs := by
  refine ⟨h.o.kept hg ?_, h.lt⟩
  cases hv : v.ownBlock with
  | none => exact .inl rfl
  | some k =>
    refine .inr fun hh => ?_
    have h1 := h.lt k hv
    have := (h2.lt k hh.symm).1
    omega
theorem Old.off (h : Old W B s e size v n xs) {g : Nat} (hO : Off g W W') (hg : some g ≠ v.ownBlock) : Old W' B s e size v n xs := ⟨hO.own h.o hg, h.lt⟩
theorem Old.offT (h : Old W B s e size v n xs) {g : Nat} {cs : List Value} {T : TypeId} (hO : Off g W W') (ha : At W g cs T) (hne : T ≠ e) : Old W' B s e size v n xs := ⟨hO.ownT h.o ha hne, h.lt⟩
theorem Old.far (h : Old W B s e size v n xs) {g : Nat} (hg : s ≤ g) : some g ≠ v.ownBlock := fun hh => by
  have := h.lt g hh.symm
  omega
end

structure BS (w : World) (gr gx : Nat) (cs : List Value) (W : World) : Prop where
  r : At W gr zC 30
  x : At W gx cs 30
  ne : gr ≠ gx
  hr : w.heap.size ≤ gr
  hx : w.heap.size ≤ gx
  b : Below w.heap.size w W
section
variable {w W W' : World} {gr gx : Nat} {cs : List Value}
theorem BS.below (h : BS w gr gx cs W) (hb : Below W.heap.size W W') : BS w gr gx cs W' := ⟨h.r.below hb h.r.lt, h.x.below hb h.x.lt, h.ne, h.hr, h.hx, h.b.trans (hb.mono h.b.size)⟩
theorem BS.al (h : BS w gr gx cs W) {o : Obj} : BS w gr gx cs (W.alloc o) := ⟨h.r.al, h.x.al, h.ne, h.hr, h.hx, h.b.alloc h.b.size _⟩
theorem BS.drew (h : BS w gr gx cs W) : BS w gr gx cs W.drew := ⟨h.r, h.x, h.ne, h.hr, h.hx, h.b.drew⟩
theorem BS.grown (h : BS w gr gx cs W) {e : TypeId} {s n B : Nat} {v : Value} {xs : List Value} (ho : W.ownsRow B e s v n xs) (hB : w.heap.size ≤ B) (hne : 30 ≠ e) (hg : W.grownBy W' v.ownBlock) : BS w gr gx cs W' :=
  ⟨h.r.grown hg (own_off ho h.r hne), h.x.grown hg (own_off ho h.x hne), h.ne, h.hr, h.hx, h.b.grown hg h.b.size fun k hk => Nat.le_trans hB (ho.lt k hk).1⟩
theorem BS.put (h : BS w gr gx cs W) (i : Nat) (u : Value) : BS w gr gx (cs.set i u) (W.setCell ⟨gx, i, none⟩ u) := ⟨h.r.off h.ne, h.x.set i u, h.ne, h.hr, h.hx, h.b.setCell h.hx _⟩
theorem BS.offq (h : BS w gr gx cs W) {g : Nat} (hO : Off g W W') (h1 : gr ≠ g) (h2 : gx ≠ g) (hg : w.heap.size ≤ g) : BS w gr gx cs W' := ⟨hO.at_ h.r h1, hO.at_ h.x h2, h.ne, h.hr, h.hx, h.b.trans (hO.below hg h.b.size)⟩
end

def EdD (l : List (Int × Int)) (xs : List Value) : Prop := EdC l xs ∧ ∀ j : Nat, j < l.length → xs[j * 4]? = some (.int .i64 ((j : Int) + 1)) ∧ xs[j * 4 + 3]? = some (.int .u32 0)
theorem EdD.nil : EdD [] [] := ⟨EdC.nil, fun j h => by simp at h⟩
theorem EdD.snoc {l : List (Int × Int)} {xs : List Value} {u v : Int} {k : Nat} (h : EdD l xs) (hk : l.length = k) : EdD (l ++ [(u, v)]) (xs ++ [.int .i64 ((k : Int) + 1), .int .i64 u, .int .i64 v, .int .u32 0]) := by
  subst hk
  have hl := h.1.1
  refine ⟨h.1.snoc, fun j hj => ?_⟩
  rw [List.length_append, List.length_singleton] at hj
  rcases Nat.lt_or_ge j l.length with hj2 | hj2
  · rw [List.getElem?_append_left (by omega), List.getElem?_append_left (by omega)]
    exact h.2 j hj2
  · obtain rfl : j = l.length := by omega
    rw [List.getElem?_append_right (by omega), List.getElem?_append_right (by omega), show l.length * 4 - xs.length = 0 by omega, show l.length * 4 + 3 - xs.length = 3 by omega]
    exact ⟨rfl, rfl⟩
def RdX (w : World) (A : Option Addr) (l : List (Int × Int)) : Prop := ∀ j : Nat, j < l.length → ∃ b, A = some ⟨b, 0, none⟩ ∧ w.cell? ⟨b, j * 4, none⟩ = some (.int .i64 ((j : Int) + 1)) ∧ w.cell? ⟨b, j * 4 + 3, none⟩ = some (.int .u32 0)
theorem RdX.below {w w' : World} {A : Option Addr} {l : List (Int × Int)} (h : RdX w A l) (hb : Below w.heap.size w w') : RdX w' A l := fun j hj => by
  obtain ⟨b, h1, h2, h3⟩ := h j hj
  exact ⟨b, h1, keep_at hb h2, keep_at hb h3⟩
theorem RdX.of_own {W : World} {B m ce : Nat} {AE : Option Addr} {xs : List Value} {arcs : List (Int × Int)} (h : W.ownsRow B 36 4 (.slice AE m ce) m xs) (hx : EdD arcs xs) (hm : m = arcs.length) : RdX W AE arcs := fun i hl => by
  obtain ⟨ge, hge, _, hcc⟩ := cell_flat h (by omega)
  have hcs := hx.2 i hl
  exact ⟨ge, hge, hcc _ _ hcs.1, hcc _ _ hcs.2⟩

structure RefC (w : World) (n : Nat) (A AE AP AQ AR : Option Addr) (arcs : List (Int × Int)) (pars : List Int) (posts : List Int) (E : Nat → Nat → Prop) : Prop where
  vs : RdI w A (rng n)
  es : RdE w AE arcs
  ex : RdX w AE arcs
  ps : RdI w AP pars
  qs : RdI w AQ posts
  rs : RdC w AR n E
theorem RefC.below {w w' : World} {n : Nat} {A AE AP AQ AR : Option Addr} {arcs : List (Int × Int)} {pars posts : List Int} {E : Nat → Nat → Prop} (h : RefC w n A AE AP AQ AR arcs pars posts E) (hb : Below w.heap.size w w') : RefC w' n A AE AP AQ AR arcs pars posts E :=
  ⟨h.vs.below hb, h.es.below hb, h.ex.below hb, h.ps.below hb, h.qs.below hb, h.rs.below hb⟩

theorem rng_succ (i : Nat) : rng (i + 1) = rng i ++ [(i : Int)] := by
  unfold rng
  rw [List.range_succ, List.map_append]
  rfl
theorem RdE.of_own {W : World} {B m ce : Nat} {AE : Option Addr} {xs : List Value} {arcs : List (Int × Int)} (h : W.ownsRow B 36 4 (.slice AE m ce) m xs) (hx : EdC arcs xs) (hm : m = arcs.length) : RdE W AE arcs := fun i u v hi => by
  have hl : i < arcs.length := (List.getElem?_eq_some_iff.1 hi).1
  obtain ⟨ge, hge, _, hcc⟩ := cell_flat h (by omega)
  have hcs := hx.2 i u v hi
  exact ⟨ge, hge, hcc _ _ hcs.1, hcc _ _ hcs.2⟩

def ParT (n : Nat) (arcs : List (Int × Int)) (v : Int) (t : Nat) (p : Int) : Prop :=
  (p = -1 ∧ ∀ u : Nat, t ≤ u → u < n → ((u : Int), v) ∉ arcs) ∨ ((p, v) ∈ arcs ∧ ∀ u : Nat, t ≤ u → u < n → ((u : Int), v) ∈ arcs → p ≤ u)
theorem ParT.start (n : Nat) (arcs : List (Int × Int)) (v : Int) : ParT n arcs v n (-1) := .inl ⟨rfl, fun u h1 h2 => by omega⟩
theorem ParT.yes {n t : Nat} {arcs : List (Int × Int)} {v p : Int} (h : ParT n arcs v (t + 1) p) (he : ((t : Int), v) ∈ arcs) : ParT n arcs v t (t : Int) := .inr ⟨he, fun u h1 _ _ => by omega⟩
theorem ParT.no {n t : Nat} {arcs : List (Int × Int)} {v p : Int} (h : ParT n arcs v (t + 1) p) (he : ((t : Int), v) ∉ arcs) : ParT n arcs v t p := by
  rcases h with ⟨h1, h2⟩ | ⟨h1, h2⟩
  · refine .inl ⟨h1, fun u a b => ?_⟩
    rcases Nat.eq_or_lt_of_le a with rfl | a
    · exact he
    · exact h2 u a b
  · refine .inr ⟨h1, fun u a b c => ?_⟩
    rcases Nat.eq_or_lt_of_le a with rfl | a
    · exact absurd c he
    · exact h2 u a b c
theorem ParT.fin {n v : Nat} {arcs : List (Int × Int)} {p : Int} (hg : Cv.Good n arcs) (h : ParT n arcs (v : Int) 0 p) (hv : v < n) : p = (parsOf n arcs).getD v 0 := by
  have hall : ∀ u : Int, (u, (v : Int)) ∈ arcs → ∃ k : Nat, u = (k : Int) ∧ k < n := fun u hu => by
    have := hg _ hu
    dsimp only at this
    exact ⟨u.toNat, by omega, by omega⟩
  rcases (hg.par).2 v hv with ⟨a1, a2⟩ | ⟨a1, a2⟩ <;> rcases h with ⟨h1, h2⟩ | ⟨h1, h2⟩
  · omega
  · exact absurd h1 (a2 _)
  · obtain ⟨k, hk, hkn⟩ := hall _ a1
    rw [hk] at a1
    exact absurd a1 (h2 k (Nat.zero_le _) hkn)
  · obtain ⟨k, hk, hkn⟩ := hall _ a1
    have b1 := a2 _ h1
    have b2 := h2 k (Nat.zero_le _) hkn (hk ▸ a1)
    omega
theorem take_snoc {l : List Int} {i : Nat} (h : i < l.length) : l.take (i + 1) = l.take i ++ [l.getD i 0] := by
  rw [List.take_add_one, List.getElem?_eq_getElem h, List.getD_eq_getElem?_getD, List.getElem?_eq_getElem h]
  rfl

def psU (n : Nat) (L : List Nat) (i : Nat) : List Int := (List.range n).map fun x => if L.idxOf x < i then ((L.idxOf x + 1 : Nat) : Int) else 0
theorem psU_length (n : Nat) (L : List Nat) (i : Nat) : (psU n L i).length = n := by simp [psU]
theorem psU_zero (n : Nat) (L : List Nat) : psU n L 0 = List.replicate n 0 := by
  apply List.ext_getElem (by simp [psU])
  intro j h1 h2
  simp [psU]
theorem idx_at : ∀ {L : List Nat} {i x : Nat}, L.Nodup → L[i]? = some x → L.idxOf x = i
  | [], i, x, _, h => by simp at h
  | y :: r, 0, x, _, h => by
    have : y = x := by simpa using h
    subst this
    simp
  | y :: r, i + 1, x, hn, h => by
    rw [List.nodup_cons] at hn
    have hx : r[i]? = some x := by simpa using h
    have hne : y ≠ x := fun e => hn.1 (e ▸ List.mem_of_getElem? hx)
    rw [List.idxOf_cons, idx_at hn.2 hx, beq_eq_false_iff_ne.2 hne]
    rfl
theorem psU_set {n i x : Nat} {L : List Nat} (hn : L.Nodup) (hx : L[i]? = some x) : (psU n L i).set x ((i : Int) + 1) = psU n L (i + 1) := by
  have hi := idx_at hn hx
  apply List.ext_getElem (by simp [psU])
  intro j h1 h2
  rw [List.getElem_set]
  by_cases hj : x = j
  · subst hj
    rw [if_pos rfl]
    simp [psU, hi]
  · rw [if_neg hj]
    simp only [psU, List.getElem_map, List.getElem_range]
    by_cases h : L.idxOf j < i
    · rw [if_pos h, if_pos (by omega)]
    · rw [if_neg h, if_neg]
      intro h3
      have hji : L.idxOf j = i := by omega
      have hlt : i < L.length := (List.getElem?_eq_some_iff.1 hx).1
      have hjm : L[i] = j := by
        have := List.getElem_idxOf (x := j) (xs := L) (by rw [hji]; exact hlt)
        simpa [hji] using this
      rw [List.getElem?_eq_getElem hlt, hjm] at hx
      exact hj (Option.some.inj hx).symm
def postsOf (n : Nat) (pars : List Int) : List Int := (List.range n).map fun x => (postN pars x : Int)
theorem postsOf_at {n x : Nat} {pars : List Int} (h : x < n) : (postsOf n pars)[x]? = some (postN pars x : Int) := by
  unfold postsOf
  rw [List.getElem?_map, List.getElem?_range h]
  rfl
theorem psU_full {n : Nat} {pars : List Int} {rk : Nat → Nat} (h : Rk n pars rk) : psU n (bl pars (-1)) n = postsOf n pars := by
  apply List.ext_getElem (by simp [psU, postsOf])
  intro j h1 h2
  have hj : j < n := by simpa [psU] using h1
  simp only [psU, postsOf, List.getElem_map, List.getElem_range]
  have h3 := post_of h hj
  rw [if_pos (by unfold postN at h3; omega)]
  rfl

structure PS (w : World) (gr gx gq s4 n m : Nat) (A AE AP Ao : Option Addr) (cg ce cp co : Nat) (xs : List Value) (pars : List Int) (L : List Nat) (vals : List Int) (W : World) : Prop where
  b : BS w gr gx [.slice A n cg, .slice AE m ce, .int .i64 0, .int .i64 0, .slice AP n cp, .slice (some ⟨gq, 0, none⟩) n n, .slice none 0 0] W
  a : Old W w.heap.size s4 3 1 (.slice A n cg) n (ints (rng n))
  e : Old W w.heap.size s4 36 4 (.slice AE m ce) m xs
  p : Old W w.heap.size s4 3 1 (.slice AP n cp) n (ints pars)
  o : Old W w.heap.size s4 3 1 (.slice Ao n co) n (ints (nums L))
  q : At W gq (ints vals) 3
  hq : s4 ≤ gq
  hs : w.heap.size ≤ s4
section
variable {w W W' : World} {gr gx gq s4 n m : Nat} {A AE AP Ao : Option Addr} {cg ce cp co : Nat} {xs : List Value} {pars : List Int} {L : List Nat} {vals : List Int}
theorem PS.below (h : PS w gr gx gq s4 n m A AE AP Ao cg ce cp co xs pars L vals W) (hb : Below W.heap.size W W') : PS w gr gx gq s4 n m A AE AP Ao cg ce cp co xs pars L vals W' :=
  ⟨h.b.below hb, h.a.below hb, h.e.below hb, h.p.below hb, h.o.below hb, h.q.below hb h.q.lt, h.hq, h.hs⟩
theorem PS.drew (h : PS w gr gx gq s4 n m A AE AP Ao cg ce cp co xs pars L vals W) : PS w gr gx gq s4 n m A AE AP Ao cg ce cp co xs pars L vals W.drew :=
  ⟨h.b.drew, h.a.drew, h.e.drew, h.p.drew, h.o.drew, h.q, h.hq, h.hs⟩
theorem PS.set (h : PS w gr gx gq s4 n m A AE AP Ao cg ce cp co xs pars L vals W) (j : Nat) (y : Int) : PS w gr gx gq s4 n m A AE AP Ao cg ce cp co xs pars L (vals.set j y) (W.setCell ⟨gq, j, none⟩ (.int .i64 y)) := by
  have hO := (Off.refl gq W).set j (.int .i64 y)
  have h1 : gr ≠ gq := h.b.r.ne h.q (by decide)
  have h2 : gx ≠ gq := h.b.x.ne h.q (by decide)
  exact ⟨h.b.offq hO h1 h2 (Nat.le_trans h.hs h.hq), h.a.off hO (h.a.far h.hq), h.e.off hO (h.e.far h.hq), h.p.off hO (h.p.far h.hq), h.o.off hO (h.o.far h.hq), h.q.put (ints_set _ _ _).symm, h.hq, h.hs⟩
theorem ps_start (hB : BS w gr gx [.slice A n cg, .slice AE m ce, .int .i64 0, .int .i64 0, .slice AP n cp, .slice none 0 0, .slice none 0 0] W) (P1 : Old W w.heap.size s4 3 1 (.slice A n cg) n (ints (rng n))) (P2 : Old W w.heap.size s4 36 4 (.slice AE m ce) m xs)
    (P3 : Old W w.heap.size s4 3 1 (.slice AP n cp) n (ints pars)) (P4 : Old W w.heap.size s4 3 1 (.slice Ao n co) n (ints (nums L))) (hs : W.heap.size = s4) (hw : w.heap.size ≤ s4) {o : Obj} {vals : List Int} (ho : ∀ W2 : World, W2.heap.size = s4 → At (W2.alloc o) s4 (ints vals) 3) :
    PS w gr gx s4 s4 n m A AE AP Ao cg ce cp co xs pars L vals ((W.setCell ⟨gx, 5, none⟩ (.slice (some ⟨s4, 0, none⟩) n n)).alloc o) := by
  have hO := (Off.refl gx W).set 5 (.slice (some ⟨s4, 0, none⟩) n n)
  exact ⟨(hB.put 5 _).al, (P1.offT hO hB.x (by decide)).al, (P2.offT hO hB.x (by decide)).al, (P3.offT hO hB.x (by decide)).al, (P4.offT hO hB.x (by decide)).al, ho _ (hO.size.trans hs), Nat.le_refl _, hw⟩
theorem PS.fin {arcs : List (Int × Int)} {AR : Option Addr} {cr : Nat} {E : Nat → Nat → Prop} (h : PS w gr gx gq s4 n m A AE AP Ao cg ce cp co xs pars L vals W) (hx : EdD arcs xs) (hm : m = arcs.length) (hrc : RdC W AR n E)
    (hO : Off gr (W.setCell ⟨gx, 6, none⟩ (.slice AR n cr)) W') : RefC W' n A AE AP (some ⟨gq, 0, none⟩) AR arcs pars vals E := by
  have O1 := (Off.refl gx W).set 6 (.slice AR n cr)
  have B7 := h.b.put 6 (.slice AR n cr)
  have hne : 0 < n → ∀ b, AR = some ⟨b, 0, none⟩ → b ≠ gr ∧ b ≠ gx := fun hn b hb => by
    obtain ⟨b', B, cB, e1, e2, e3⟩ := hrc 0 hn
    rw [e1] at hb
    cases hb
    constructor
    · rintro rfl
      rw [h.b.r.cell 0 rfl] at e2
      cases e2
    · rintro rfl
      rw [h.b.x.cell 0 rfl] at e2
      cases e2
      obtain ⟨b2, e4, e5⟩ := (RdI.of_own h.a.o).1 0 _ (rng_at hn)
      cases e4
      rw [e3 0 hn] at e5
      cases e5
  have hq1 : gq ≠ gx := h.q.ne h.b.x (by decide)
  have hq2 : gq ≠ gr := h.q.ne h.b.r (by decide)
  have hq3 : At W' gq (ints vals) 3 := hO.at_ (O1.at_ h.q hq1) hq2
  refine ⟨(RdI.of_own ((h.a.offT O1 h.b.x (by decide)).offT hO B7.r (by decide)).o).1, RdE.of_own ((h.e.offT O1 h.b.x (by decide)).offT hO B7.r (by decide)).o hx.1 hm, RdX.of_own ((h.e.offT O1 h.b.x (by decide)).offT hO B7.r (by decide)).o hx hm, (RdI.of_own ((h.p.offT O1 h.b.x (by decide)).offT hO B7.r (by decide)).o).1, fun j x hx => ⟨gq, rfl, hq3.cell j (Mem.ints_at _ hx)⟩, ?_⟩
  refine hO.rdC (O1.rdC hrc h.b.x (fun y hy => by simp at hy) (fun hn b hb => (hne hn b hb).2)) B7.r (fun y hy => by simp [zC] at hy) (fun hn b hb => (hne hn b hb).1)
end

end Go.Proofs.Ytdohfjidnbhfnaa.Rb
