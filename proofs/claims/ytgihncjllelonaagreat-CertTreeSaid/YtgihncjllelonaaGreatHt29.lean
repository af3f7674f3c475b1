/- brambleref01: Admit; brambleref13: Graph; brambleref09: Arcs. -/
import Derived.Test.YtgihncjllelonaaGreatHt26
import Derived.Test.YtgihncjllelonaaGreatHt15
import Derived.Test.YtgihncjllelonaaGreatHt5
import Derived.Test.YtgihncjllelonaaGreatHt22
import Derived.Deep.DeepCutAuto
namespace Go.Proofs.YtgihncjllelonaaGreat.Ce
open Go Go.RowKit Go.MapKept Go.Proofs.YtgihncjllelonaaGreat.Mem Go.Proofs.YtgihncjllelonaaGreat.Sl Go.Proofs.YtgihncjllelonaaGreat.Lw Go.Proofs.YtgihncjllelonaaGreat.Wt Go.Proofs.YtgihncjllelonaaGreat.Tb Go.Proofs.YtgihncjllelonaaGreat.Scc Go.Proofs.YtgihncjllelonaaGreat.Tj Go.Proofs.YtgihncjllelonaaGreatW.PrintWords Go.Proofs.YtgihncjllelonaaGreatW.PrintLast
attribute [local go_sem ↓] Go.wp_at_zero Go.wp_at_succ
set_option linter.unusedSimpArgs false
set_option linter.unusedVariables false

def admR (n : Nat) : Nat := if admOk n then admB n else 0
theorem admR_lt {n : Nat} (h : n < 4294967296) : admR n < 4294967296 := by
  unfold admR admB
  split
  · split <;> omega
  · omega
set_option maxHeartbeats 4000000 in
set_option maxRecDepth 100000 in
theorem admit13_calls (n : Nat) (w : World) (h : n < 4294967296) : Calls Tryz.prog 63 #[.int .u32 (n : Int)] w fun e w' => e = .returned (.tuple #[.int .u32 (admR n : Int), .int .i64 (if admOk n then 0 else 7)]) ∧ w' = w := by
  by_cases h1 : n = 2147483648
  · subst h1
    have e1 : admR 2147483648 = 0 := by decide
    have e2 : admOk 2147483648 = true := by decide
    rw [e1, e2]
    go_enter Tryz.func63, Tryz.ntmps63
    go_wp2
    go_ret2
    exact ⟨rfl, rfl⟩
  · have q1 : ((n : Int) == 2147483648) = false := beq_eq_false_iff_ne.2 (by omega)
    by_cases h2 : n < 2139095040
    · have e2 : admOk n = true := decide_eq_true (.inr h2)
      have e1 : admR n = n := by unfold admR admB; rw [e2, if_pos rfl, if_neg h1]
      have q2 : ¬ (n : Int) ≥ 2139095040 := by omega
      rw [e1, e2]
      clear h2
      go_enter Tryz.func63, Tryz.ntmps63
      go_wp2
      go_ret2
      exact ⟨rfl, rfl⟩
    · have e2 : admOk n = false := decide_eq_false (by omega)
      have e1 : admR n = 0 := by unfold admR; rw [e2]; rfl
      have q2 : (n : Int) ≥ 2139095040 := by omega
      rw [e1, e2]
      clear h2
      go_enter Tryz.func63, Tryz.ntmps63
      go_wp2
      go_ret2
      exact ⟨rfl, rfl⟩
def adE (x : Ed) : Ed := (x.1, x.2.1, x.2.2.1, admR x.2.2.2)
structure G3 (w : World) (gx gb : Nat) (A : Option Addr) (n cg : Nat) (sl : List Int) (vE : Value) (l : List Ed) (W : World) : Prop where
  x : At W gx [.slice A n cg, vE, .int .i64 0, .int .i64 0] 34
  b : At W gb [.slice none 0 0, .slice none 0 0, .int .i64 0, .int .i64 0] 34
  ne : gx ≠ gb
  hx : w.heap.size ≤ gx
  hb : w.heap.size ≤ gb
  o : Two w 3 1 (.slice A n cg) n (ints sl) 74 4 vE l.length (edsC (l.map adE)) W
section
variable {w W W' : World} {gx gb n cg : Nat} {A : Option Addr} {sl : List Int} {vE : Value} {l : List Ed}
theorem G3.below (h : G3 w gx gb A n cg sl vE l W) (hb : Below W.heap.size W W') : G3 w gx gb A n cg sl vE l W' :=
  ⟨h.x.below hb h.x.lt, h.b.below hb h.b.lt, h.ne, h.hx, h.hb, h.o.below hb⟩
theorem G3.grow {v' : Value} {x : Ed} (h : G3 w gx gb A n cg sl vE l W) (ho : W'.ownsRow w.heap.size 74 4 v' (l.length + 1) (edsC (l.map adE) ++ edsC [adE x])) (hg : W.grownBy W' vE.ownBlock) (hn : v'.ownBlock = vE.ownBlock ∨ v'.ownBlock = some W.heap.size) :
    At W' gx [.slice A n cg, vE, .int .i64 0, .int .i64 0] 34 ∧ G3 w gx gb A n cg sl v' (l ++ [x]) (W'.setCell ⟨gx, 1, none⟩ v') := by
  have ht := h.o.grow2 ho hg hn
  have hx := h.x.grown hg (own_off h.o.r2 h.x (by decide))
  have hb := h.b.grown hg (own_off h.o.r2 h.b (by decide))
  refine ⟨hx, hx.put rfl, hb.off h.ne.symm, h.ne, h.hx, h.hb, ?_⟩
  rw [List.length_append, List.length_singleton, List.map_append, edsC_append]
  exact ⟨own_beside ht.r1 hx (by decide), own_beside ht.r2 hx (by decide), ht.ne, ht.b.setCell h.hx _⟩
end
set_option maxHeartbeats 8000000 in
set_option maxRecDepth 100000 in
theorem graph13_calls (w : World) (A1 A2 : Option Addr) (c1 c2 : Nat) (L : List Int) (R : List Ed) (hv : RdI w A1 L) (ha : RdD w A2 R) (hl : L.length ≤ 400) (hr : R.length ≤ 400) (hbit : ∀ p ∈ R, p.2.2.2 < 4294967296) :
    Calls Tryz.prog 21 #[.slice A1 L.length c1, .slice A2 R.length c2] w fun e w' => ∃ A5 cg AE ce, e = .returned (gV A5 L.length cg (.slice AE R.length ce)) ∧ RdI w' A5 (sorted L) ∧ RdD w' AE (R.map adE) ∧ Below w.heap.size w w' := by
  obtain ⟨i4, hi4, hz4, hs4, hy4⟩ := info_parts info_edge
  obtain ⟨n, hn⟩ : ∃ n, L.length = n := ⟨_, rfl⟩
  obtain ⟨m, hm⟩ : ∃ n, R.length = n := ⟨_, rfl⟩
  have hSC := fun (W : World) (hW : Below w.heap.size w W) => sorted_calls W A1 c1 L (hv.below hW) (by omega)
  have hsl := sorted_length L
  obtain ⟨sl, hsle⟩ : ∃ sl, sorted L = sl := ⟨_, rfl⟩
  rw [hsle] at hSC hsl ⊢
  rw [hn] at hSC hl hsl ⊢
  rw [hm] at hr ⊢
  have HSC := Lib.hid hSC
  have HA := Lib.hid (And.intro ha (And.intro hbit hm))
  have HN := Lib.hid hsl
  clear hv ha hSC hsl hsle hn hbit hm
  unfold gV
  go_enter Tryz.func21, Tryz.ntmps21
  go_wp2_with fail
  refine (HSC.out _ ((Below.refl _ _).alloc (Nat.le_refl _) _)).mono ?_
  clear HSC
  rintro e w1 ⟨v5, rfl, hO⟩
  obtain ⟨A5, cg, rfl⟩ := Lw.own_slice hO.r
  have hsz : (w.alloc (.cells #[.slice none 0 0, .slice none 0 0, .int .i64 0, .int .i64 0] 34)).heap.size = w.heap.size + 1 := by simp
  have hgb : At w1 w.heap.size [.slice none 0 0, .slice none 0 0, .int .i64 0, .int .i64 0] 34 := (At.made (w := w) (a := #[.slice none 0 0, .slice none 0 0, .int .i64 0, .int .i64 0]) rfl rfl).below hO.b (by rw [hsz]; omega)
  have hrow : w1.ownsRow w.heap.size 3 1 (.slice A5 n cg) n (ints sl) := own_mono hO.r (by rw [hsz]; omega)
  have hbel : Below w.heap.size w w1 := ((Below.refl _ _).alloc (Nat.le_refl _) _).trans (hO.b.mono (by rw [hsz]; omega))
  have hlt : w.heap.size < w1.heap.size := by have := hO.b.size; rw [hsz] at this; omega
  have HGB := Lib.hid hgb
  have HRW := Lib.hid hrow
  have HBL := Lib.hid hbel
  have HLT := Lib.hid hlt
  clear hO hsz hgb hrow hbel hlt
  go_wp2_with fail
  refine gen_loopw (fun W => G3 w w1.heap.size w.heap.size A5 n cg sl (.slice none 0 0) [] W) ?_ ?_
  · have hal := (Below.refl w1.heap.size w1).alloc (Nat.le_refl _) (.cells #[.slice A5 n cg, .slice none 0 0, .int .i64 0, .int .i64 0] 34)
    exact ⟨At.made rfl rfl, HGB.out.al, by have := HLT.out; omega, by have := HLT.out; omega, Nat.le_refl _, ⟨HRW.out.alloc _, World.ownsRow_nil _ _ _ _, fun k _ h => by simp [Value.ownBlock] at h, HBL.out.alloc HBL.out.size _⟩⟩
  clear HGB HRW HBL HLT
  obtain ⟨gx, hgx⟩ : ∃ gx, w1.heap.size = gx := ⟨_, rfl⟩
  obtain ⟨gb, hgb⟩ : ∃ gb, w.heap.size = gb := ⟨_, rfl⟩
  rw [hgx, hgb]
  have HGBE := Lib.hid hgb
  clear hgx hgb
  intro w3 hG
  have HG := Lib.hid hG
  clear hG
  go_loopg [6] m (fun kq v6 w' => ∃ j : Nat, v6 = .int .i64 (j : Int) ∧ Hid (j + kq = m ∧ ∃ vE, G3 w gx gb A5 n cg sl vE (R.take j) w'))
  case atStart => exact ⟨0, rfl, Lib.hid ⟨by omega, _, by rw [List.take_zero]; exact HG.out⟩⟩
  case round =>
    clear HG
    obtain ⟨j, rfl, hI⟩ := hrel
    obtain ⟨hjk, vE, hG⟩ := hI.out
    clear hI
    by_cases hj : j < m
    · obtain ⟨k1, rfl⟩ : ∃ k1, gk = k1 + 1 := ⟨gk - 1, by omega⟩
      obtain ⟨⟨e, u, v, b⟩, hx⟩ : ∃ x, R[j]? = some x := ⟨_, List.getElem?_eq_getElem (by have := HA.out.2.2; omega)⟩
      obtain ⟨b2, hb2, qe, qu, qv, qb⟩ := (HA.out.1.below hG.o.b) j e u v b hx
      subst hb2
      have htl : (R.take j).length = j := by rw [List.length_take]; have := HA.out.2.2; omega
      obtain ⟨b', hb'⟩ : ∃ b', admR b = b' := ⟨_, rfl⟩
      have had := admit13_calls b (wr.alloc (.cells #[.int .i64 e, .int .i64 u, .int .i64 v, .int .u32 (b : Int)] 74)) (HA.out.2.1 _ (List.mem_of_getElem? hx))
      obtain ⟨cq, hcq⟩ : ∃ c : Int, (if admOk b then (0 : Int) else 7) = c := ⟨_, rfl⟩
      rw [hb', hcq] at had
      clear hcq
      have HAD := Lib.hid had
      have HG := Lib.hid (And.intro hjk (And.intro hx (And.intro hb' (And.intro htl hG))))
      have j0 : (0 : Int) ≤ (j : Int) := by omega
      have j1 : (j : Int) < (m : Int) := by omega
      clear hG hjk hx hb' htl had hj
      go_wp2_with fail
      refine HAD.out.mono ?_
      clear HAD
      rintro e2 w4 ⟨rfl, rfl⟩
      go_upto_region 7 with (fail)
      clear qe qu qv qb
      obtain ⟨g7, hg7⟩ : ∃ g, wr.heap.size = g := ⟨_, rfl⟩
      refine gen_world (fun W => At W g7 [.int .i64 e, .int .i64 u, .int .i64 v, .int .u32 (b' : Int)] 74 ∧ G3 w gx gb A5 n cg sl vE (R.take j) W) ?_ ?_
      · have hb := HG.out.2.2.2.2.below ((Below.refl wr.heap.size wr).alloc (Nat.le_refl _) (.cells #[.int .i64 e, .int .i64 u, .int .i64 v, .int .u32 (b' : Int)] 74))
        exact ⟨At.made hg7 rfl, hb⟩
      rw [hg7]
      clear hg7
      rintro w7 ⟨ha7, hG7⟩
      have c0 := ha7.cell 0 rfl
      have c1' := ha7.cell 1 rfl
      have c2' := ha7.cell 2 rfl
      have c3 := ha7.cell 3 rfl
      have q1 := hG7.x.cell 1 rfl
      have hT := hG7.o.r2
      rw [HG.out.2.2.2.1] at hT
      have HG7 := Lib.hid (And.intro hG7 hT)
      have HRO := Lib.hid (fun (v8 : Value) (w8 : World) (ho : w8.ownsRow w.heap.size 74 4 v8 (j + 1) (edsC ((R.take j).map adE) ++ [.int .i64 e, .int .i64 u, .int .i64 v, .int .u32 (b' : Int)])) (hg : (w7.alloc (.cells #[.int .i64 e, .int .i64 u, .int .i64 v, .int .u32 (b' : Int)] 74)).grownBy w8 vE.ownBlock) (hn : v8.ownBlock = vE.ownBlock ∨ v8.ownBlock = some (w7.alloc (.cells #[.int .i64 e, .int .i64 u, .int .i64 v, .int .u32 (b' : Int)] 74)).heap.size) =>
        (HG7.out.1.below ((Below.refl _ _).alloc (Nat.le_refl _) (.cells #[.int .i64 e, .int .i64 u, .int .i64 v, .int .u32 (b' : Int)] 74))).grow (x := (e, u, v, b)) (by rw [HG.out.2.2.2.1]; unfold adE; rw [HG.out.2.2.1]; exact ho) hg hn)
      clear ha7 hG7 hT
      go_wp2_with ((at_builtin; refine wpList_append_any rfl (.tmp 29) (.tmp 31) 23 rfl w.heap.size 74 i4 (.agg #[.int .i64 0, .int .i64 0, .int .i64 0, .int .u32 0]) 4 32 Tryz.underlying23 hi4 hz4 hs4 hy4 rfl (by omega) _ _ _ rfl (HG7.out.2.alloc (.cells #[.int .i64 e, .int .i64 u, .int .i64 v, .int .u32 (b' : Int)] 74)) _ rfl 1 [.int .i64 e, .int .i64 u, .int .i64 v, .int .u32 (b' : Int)] (RdV.lit w7 #[.int .i64 e, .int .i64 u, .int .i64 v, .int .u32 (b' : Int)] 74 1 4 1 rfl (by simp [Value.oneCell'])) (by unfold maxLen; omega) (by omega) (by have := HG7.out.1.o.b.size; simp; omega) ?_; intro v8 w8 ho hg hn; obtain ⟨A8, c8, rfl⟩ := Lw.own_slice ho; have HN := Lib.hid (HRO.out _ w8 ho hg hn); have hs := HN.out.1.cell 1 rfl; have hf := HN.out.1.free 1; clear ho hg hn))
      go_roundg k1
      case measure => have := HG.out.1; omega
      case rel => exact ⟨j + 1, by go_num, Lib.hid ⟨by have := HG.out.1; omega, _, by rw [List.take_add_one, HG.out.2.1]; exact HN.out.2⟩⟩
    · obtain rfl : m = j := by omega
      rw [List.take_of_length_le (by have := HA.out.2.2; omega)] at hG
      have hT := hG.o
      rw [HA.out.2.2] at hT
      obtain ⟨AE, ce, rfl⟩ := Lw.own_slice hT.r2
      have q0 := hG.x.cell 0 rfl
      have q1 := hG.x.cell 1 rfl
      have q2 := hG.x.cell 2 rfl
      have q3 := hG.x.cell 3 rfl
      have g0 := hG.b.cell 0 rfl
      have g1 := hG.b.cell 1 rfl
      have g2 := hG.b.cell 2 rfl
      have g3 := hG.b.cell 3 rfl
      have f0 := hG.b.free 0
      have f1 := hG.b.free 1
      have f2 := hG.b.free 2
      have f3 := hG.b.free 3
      have HG := Lib.hid hG
      have HT := Lib.hid hT
      clear hG hT hjk hj
      go_wp2_with fail
      have a1 : At _ gb [.slice A5 n cg, .slice none 0 0, .int .i64 0, .int .i64 0] 34 := HG.out.b.set 0 (.slice A5 n cg)
      have a2 : At _ gb [.slice A5 n cg, .slice AE m ce, .int .i64 0, .int .i64 0] 34 := a1.set 1 (.slice AE m ce)
      have a3 : At _ gb [.slice A5 n cg, .slice AE m ce, .int .i64 0, .int .i64 0] 34 := a2.set 2 (.int .i64 0)
      have a4 : At _ gb [.slice A5 n cg, .slice AE m ce, .int .i64 0, .int .i64 0] 34 := a3.set 3 (.int .i64 0)
      have hgw := HG.out.hb
      have o1 := own_beside (i := 3) (u := .int .i64 0) (own_beside (i := 2) (u := .int .i64 0) (own_beside (i := 1) (u := .slice AE m ce) (own_beside (i := 0) (u := .slice A5 n cg) HT.out.r1 HG.out.b (by decide)) a1 (by decide)) a2 (by decide)) a3 (by decide)
      have o2 := own_beside (i := 3) (u := .int .i64 0) (own_beside (i := 2) (u := .int .i64 0) (own_beside (i := 1) (u := .slice AE m ce) (own_beside (i := 0) (u := .slice A5 n cg) HT.out.r2 HG.out.b (by decide)) a1 (by decide)) a2 (by decide)) a3 (by decide)
      have hbb := (((HT.out.b.setCell (p := ⟨gb, 0, none⟩) hgw (.slice A5 n cg)).setCell (p := ⟨gb, 1, none⟩) hgw (.slice AE m ce)).setCell (p := ⟨gb, 2, none⟩) hgw (.int .i64 0)).setCell (p := ⟨gb, 3, none⟩) hgw (.int .i64 0)
      refine bodyPost_ret (results_cell_row rfl _ _ gb 34 #[.slice A5 n cg, .slice AE m ce, .int .i64 0, .int .i64 0] (0, 0) _ rfl a4 Tryz.underlying34 rfl (by kernel_rfl)) rfl ?_
      exact ⟨A5, cg, AE, ce, rfl, (RdI.of_own o1).1, (RdD.of_own o2).1, hbb⟩
end Go.Proofs.YtgihncjllelonaaGreat.Ce

/- brambleref09: Arcs. -/
namespace Go.Proofs.YtgihncjllelonaaGreat.Ce
open Go Go.RowKit Go.MapKept Go.Proofs.YtgihncjllelonaaGreat.Mem Go.Proofs.YtgihncjllelonaaGreat.Sl Go.Proofs.YtgihncjllelonaaGreat.Lw Go.Proofs.YtgihncjllelonaaGreat.Wt Go.Proofs.YtgihncjllelonaaGreat.Tb Go.Proofs.YtgihncjllelonaaGreat.Scc Go.Proofs.YtgihncjllelonaaGreat.Tj Go.Proofs.YtgihncjllelonaaGreatW.PrintWords Go.Proofs.YtgihncjllelonaaGreatW.PrintLast
attribute [local go_sem ↓] Go.wp_at_zero Go.wp_at_succ
set_option linter.unusedSimpArgs false
set_option linter.unusedVariables false

def ends (es : List Ed) : List (Int × Int) := es.map fun x => (x.2.1, x.2.2.1)
end Go.Proofs.YtgihncjllelonaaGreat.Ce

/- cert: quiet. -/
namespace Go.Proofs.YtgihncjllelonaaGreat.Ce
open Go Go.RowKit Go.MapKept Go.Proofs.YtgihncjllelonaaGreat.Mem Go.Proofs.YtgihncjllelonaaGreat.Sl Go.Proofs.YtgihncjllelonaaGreat.Lw Go.Proofs.YtgihncjllelonaaGreat.Wt Go.Proofs.YtgihncjllelonaaGreat.Tb Go.Proofs.YtgihncjllelonaaGreatW.PrintWords Go.Proofs.YtgihncjllelonaaGreatW.PrintLast
attribute [local go_sem ↓] Go.wp_at_zero Go.wp_at_succ
set_option linter.unusedSimpArgs false
set_option linter.unusedVariables false

def quietB (ds : List Ds) (x : Ed) : Bool := (dD ds x.2.1).2.1 || (!(dD ds x.2.2.1).2.1 && decide ((dD ds x.2.2.1).2.2.1 ≤ add32 (dD ds x.2.1).2.2.1 x.2.2.2))
def tb30_2.T2 : Bool × List (List Nat × List Nat) := (true, [([], []), ([0], [0]), ([1], [1]), ([2], [2]), ([3, 2], [2, 3]), ([4, 2], [2, 4]), ([5, 2, 2], [2, 5]), ([6], [6]), ([7, 6], [6, 7]), ([6], [6]), ([9, 6], [6, 9]), ([6], [6]), ([11, 6], [6, 11]), ([10, 12, 6, 6], [6, 10, 12]), ([8, 13, 6], [6, 8, 13]), ([6, 14, 2], [2, 6, 14]), ([2, 15], [2, 15]), ([16, 13, 0, 1, 2, 3, 4, 5, 6, 7, 8, 9, 10, 11, 12, 13, 14, 15, 16], [16])])
def tb30_2.B2 : List Nat := [0, 1, 3, 7, 15, 31, 63, 127, 255, 127, 639, 127, 2175, 7807, 16383, 32767, 65535, 131071]
theorem tb30_2.tab2 : rtab .any (opsOf Tryz.f30 2) = tb30_2.T2 := by kernel_rfl
theorem tb30_2.bits2 : waitsOk tb30_2.T2.2 tb30_2.B2 = true := by kernel_rfl
set_option maxHeartbeats 8000000 in
set_option maxRecDepth 100000 in
theorem quiet_calls (w : World) (s : Int) (md me : Nat) (ds : List Ds) (es : List Ed) (h : Cm w md me ds es) (e u v : Int) (b : Nat) (hb : b < 4294967296) : Calls Tryz.prog 30 #[.agg #[.int .i64 s, .map (some md), .map (some me)], .agg #[.int .i64 e, .int .i64 u, .int .i64 v, .int .u32 (b : Int)]] w fun en w' => en = .returned (.bool (quietB ds (e, u, v, b))) ∧ Below w.heap.size w w' := by
  have hb2 : Below w.heap.size w ((w.alloc (.cells #[.int .i64 s, .map (some md), .map (some me)] 82)).alloc (.cells #[.int .i64 e, .int .i64 u, .int .i64 v, .int .u32 (b : Int)] 74)) := ((Below.refl _ _).alloc (Nat.le_refl _) _).alloc (by simp) _
  have hz : ∀ {W : World} (c : Array Value), Below w.heap.size w W → Below w.heap.size w (W.alloc (.cells c 78)) := fun c hW => hW.alloc hW.size _
  have lu := fun (W : World) (hW : Below w.heap.size w W) => (h.below hW).dlook u
  have lv := fun (W : World) (hW : Below w.heap.size w W) => (h.below hW).dlook v
  obtain ⟨⟨ua, uf, ub, ue⟩, hu⟩ : ∃ x, dD ds u = x := ⟨_, rfl⟩
  obtain ⟨⟨va, vf, vb, ve⟩, hv⟩ : ∃ x, dD ds v = x := ⟨_, rfl⟩
  simp only [hu] at lu
  simp only [hv] at lv
  have hub := dD_bits h.db u
  rw [hu] at hub
  have hspec : quietB ds (e, u, v, b) = (uf || (!vf && decide (vb ≤ add32 ub b))) := by
    unfold quietB
    dsimp only
    rw [hu, hv]
  rw [hspec]
  have HSU := Lib.hid (fun W : World => sum_calls ub b W hub hb)
  have l1 := lu _ hb2.drew
  have l2 := fun c => lu _ (hz c hb2).drew
  have l3 := fun c c' => lu _ (hz c' (hz c hb2)).drew
  have l4 := lv _ hb2.drew
  have l5 := fun c => lv _ (hz c hb2).drew
  have l6 := fun c c' => lv _ (hz c' (hz c hb2)).drew
  clear hspec hu hv lu lv hb2 hz h hub
  go_enter Tryz.func30, Tryz.ntmps30
  go_upto_region 1 with (fail)
  go_cut [5, 6] (fun v5 v6 wc => ∃ b1 b2 : Nat, v5 = .pointer (some ⟨b1, 0, none⟩) ∧ v6 = .pointer (some ⟨b2, 0, none⟩) ∧ Hid (At wc b1 [.int .i64 ua, .bool uf, .int .u32 (ub : Int), .int .i64 ue] 78 ∧ At wc b2 [.int .i64 va, .bool vf, .int .u32 (vb : Int), .int .i64 ve] 78 ∧ At wc (w.heap.size + 1) [.int .i64 e, .int .i64 u, .int .i64 v, .int .u32 (b : Int)] 74 ∧ Below w.heap.size w wc))
  case first =>
    go_region
    all_goals go_wp2_with fail
    all_goals go_meet
    all_goals exact ⟨_, _, rfl, rfl, Lib.hid ⟨by repeat (first | (refine At.made ?_ rfl; simp; done) | refine At.drew ?_ | refine At.al ?_), by repeat (first | (refine At.made ?_ rfl; simp; done) | refine At.drew ?_ | refine At.al ?_), by repeat (first | (refine At.made ?_ rfl; simp; done) | refine At.drew ?_ | refine At.al ?_), by repeat (first | exact Below.refl _ _ | refine Below.drew ?_ | refine Below.alloc ?_ (by first | (simp; done) | (simp; omega)) _)⟩⟩
  case rest =>
    obtain ⟨b1, b2, rfl, rfl, hc⟩ := hcut
    rename World => wy
    clear l1 l2 l3 l4 l5 l6
    obtain ⟨g3, hg3⟩ : ∃ g, w.heap.size + 1 = g := ⟨_, rfl⟩
    rw [hg3] at hc
    rw [hg3]
    have hX := hc.out
    go_upto_region 2 with (fail)
    obtain ⟨wd, hwd⟩ : ∃ wd, wy.drew = wd := ⟨_, rfl⟩
    have HX := Lib.hid (show At wd b1 [.int .i64 ua, .bool uf, .int .u32 (ub : Int), .int .i64 ue] 78 ∧ At wd b2 [.int .i64 va, .bool vf, .int .u32 (vb : Int), .int .i64 ve] 78 ∧ At wd g3 [.int .i64 e, .int .i64 u, .int .i64 v, .int .u32 (b : Int)] 74 ∧ Below w.heap.size w wd from hwd ▸ ⟨hX.1.drew, hX.2.1.drew, hX.2.2.1.drew, hX.2.2.2.drew⟩)
    clear hX hc hg3
    cases uf with
    | true =>
      refine start_ (n := 18) (S := fun w' => w'.cell? ⟨b1, 1, none⟩ = some (.bool true)) (ds := []) (bA 18 0) (by kernel_rfl) rfl rfl ((by rw [hwd]; exact HX.out.1.cell 1 rfl)) (fun hHeld => ?_)
      rw [hwd] at hHeld ⊢
      refine with_tabW tb30_2.tab2 tb30_2.bits2 (fun HT_ HW_ => ?_)
      refine pw_ 0 17 (bA 18 1) HT_.out ?_
      refine tw_ 1 18 (bA 18 3) HT_.out HW_.out hHeld (hv := by intro w' s0; go_simp; with_reducible rfl) (h := ?_)
      refine pw_ 2 19 (bA 18 7) HT_.out ?_
      refine pu_ 3 20 (bA 18 15) HT_.out ?_
      refine pu_ 4 21 (bA 18 31) HT_.out ?_
      refine pu_ 5 22 (bA 18 63) HT_.out ?_
      refine pu_ 6 23 (bA 18 127) HT_.out ?_
      refine pu_ 7 24 (bA 18 255) HT_.out ?_
      refine pu_ 8 25 (bA 18 511) HT_.out ?_
      refine pu_ 9 26 (bA 18 1023) HT_.out ?_
      refine pu_ 10 27 (bA 18 2047) HT_.out ?_
      refine pu_ 11 28 (bA 18 4095) HT_.out ?_
      refine pu_ 12 29 (bA 18 8191) HT_.out ?_
      refine pu_ 13 30 (bA 18 16383) HT_.out ?_
      refine pu_ 14 31 (bA 18 32767) HT_.out ?_
      refine pu_ 15 32 (bA 18 65535) HT_.out ?_
      refine pw_ 16 33 (bA 18 131071) HT_.out ?_
      refine pw_ 17 4 (bA 18 262143) HT_.out ?_
      refine done_ (done_of HT_.out (by kernel_rfl)) ?_
      clear hHeld HT_ HW_
      go_wp2
      go_ret
      exact ⟨rfl, HX.out.2.2.2⟩
    | false =>
      cases vf with
      | true =>
        refine start_ (n := 18) (S := fun w' => w'.cell? ⟨b1, 1, none⟩ = some (.bool false) ∧ w'.cell? ⟨b2, 1, none⟩ = some (.bool true)) (ds := []) (bA 18 0) (by kernel_rfl) rfl rfl ⟨(by rw [hwd]; exact HX.out.1.cell 1 rfl), (by rw [hwd]; exact HX.out.2.1.cell 1 rfl)⟩ (fun hHeld => ?_)
        rw [hwd] at hHeld ⊢
        refine with_tabW tb30_2.tab2 tb30_2.bits2 (fun HT_ HW_ => ?_)
        refine pw_ 0 17 (bA 18 1) HT_.out ?_
        refine tw_ 1 18 (bA 18 3) HT_.out HW_.out hHeld (hv := by rintro w' ⟨s0, s1⟩; go_simp; with_reducible rfl) (h := ?_)
        refine pw_ 2 19 (bA 18 7) HT_.out ?_
        refine pw_ 3 20 (bA 18 15) HT_.out ?_
        refine tw_ 4 21 (bA 18 31) HT_.out HW_.out hHeld (hv := by rintro w' ⟨s0, s1⟩; go_simp; with_reducible rfl) (h := ?_)
        refine pw_ 5 22 (bA 18 63) HT_.out ?_
        refine pw_ 6 23 (bA 18 127) HT_.out ?_
        refine pu_ 7 24 (bA 18 255) HT_.out ?_
        refine pu_ 8 25 (bA 18 511) HT_.out ?_
        refine pu_ 9 26 (bA 18 1023) HT_.out ?_
        refine pu_ 10 27 (bA 18 2047) HT_.out ?_
        refine pu_ 11 28 (bA 18 4095) HT_.out ?_
        refine pu_ 12 29 (bA 18 8191) HT_.out ?_
        refine pu_ 13 30 (bA 18 16383) HT_.out ?_
        refine pu_ 14 31 (bA 18 32767) HT_.out ?_
        refine pw_ 15 32 (bA 18 65535) HT_.out ?_
        refine pw_ 16 33 (bA 18 131071) HT_.out ?_
        refine pw_ 17 4 (bA 18 262143) HT_.out ?_
        refine done_ (done_of HT_.out (by kernel_rfl)) ?_
        clear hHeld HT_ HW_
        go_wp2
        go_ret
        exact ⟨rfl, HX.out.2.2.2⟩
      | false =>
        refine start_ (n := 18) (S := fun w' => w'.cell? ⟨b1, 1, none⟩ = some (.bool false) ∧ w'.cell? ⟨b2, 1, none⟩ = some (.bool false) ∧ w'.cell? ⟨b2, 2, none⟩ = some (.int .u32 (vb : Int)) ∧ w'.cell? ⟨b1, 2, none⟩ = some (.int .u32 (ub : Int)) ∧ w'.cell? ⟨g3, 3, none⟩ = some (.int .u32 (b : Int))) (ds := []) (bA 18 0) (by kernel_rfl) rfl rfl ⟨(by rw [hwd]; exact HX.out.1.cell 1 rfl), (by rw [hwd]; exact HX.out.2.1.cell 1 rfl), (by rw [hwd]; exact HX.out.2.1.cell 2 rfl), (by rw [hwd]; exact HX.out.1.cell 2 rfl), (by rw [hwd]; exact HX.out.2.2.1.cell 3 rfl)⟩ (fun hHeld => ?_)
        rw [hwd] at hHeld ⊢
        refine with_tabW tb30_2.tab2 tb30_2.bits2 (fun HT_ HW_ => ?_)
        refine pw_ 0 17 (bA 18 1) HT_.out ?_
        refine tw_ 1 18 (bA 18 3) HT_.out HW_.out hHeld (hv := by rintro w' ⟨s0, s1, s2, s3, s4⟩; go_simp; with_reducible rfl) (h := ?_)
        refine pw_ 2 19 (bA 18 7) HT_.out ?_
        refine pw_ 3 20 (bA 18 15) HT_.out ?_
        refine tw_ 4 21 (bA 18 31) HT_.out HW_.out hHeld (hv := by rintro w' ⟨s0, s1, s2, s3, s4⟩; go_simp; with_reducible rfl) (h := ?_)
        refine pw_ 5 22 (bA 18 63) HT_.out ?_
        refine pw_ 6 23 (bA 18 127) HT_.out ?_
        refine pw_ 7 24 (bA 18 255) HT_.out ?_
        refine pw_ 9 26 (bA 18 767) HT_.out ?_
        refine pw_ 11 28 (bA 18 2815) HT_.out ?_
        refine tw_ 8 25 (bA 18 3071) HT_.out HW_.out hHeld (hv := by rintro w' ⟨s0, s1, s2, s3, s4⟩; go_simp; with_reducible rfl) (h := ?_)
        refine tw_ 10 27 (bA 18 4095) HT_.out HW_.out hHeld (hv := by rintro w' ⟨s0, s1, s2, s3, s4⟩; go_simp; with_reducible rfl) (h := ?_)
        refine tw_ 12 29 (bA 18 8191) HT_.out HW_.out hHeld (hv := by rintro w' ⟨s0, s1, s2, s3, s4⟩; go_simp; with_reducible rfl) (h := ?_)
        refine one_ (i := 13) (N := some 30) (bA 18 16383) rfl rfl (one_of HT_.out (by kernel_rfl)) (by decide) (fun K hK => ?_)
        refine gw_ Tryz.func79 #[.int .u32 (ub : Int), .int .u32 (b : Int)] ?_
        with_reducible refine ((HSU.out wd)).mono ?_
        rintro e1 w1 ⟨rfl, rfl⟩
        refine ⟨_, rfl, ?_⟩
        refine hK.out _ _ ⟨(HX.out.1.cell 1 rfl), (HX.out.2.1.cell 1 rfl), (HX.out.2.1.cell 2 rfl), (HX.out.1.cell 2 rfl), (HX.out.2.2.1.cell 3 rfl)⟩ (fun hHeld => ?_)
        clear hK K
        refine norm_ (a' := ?_) ?_ ?_
        rotate_left
        · show Act.put _ (some 30) _ = _
          simp only [Act.put, pA, pB, pC, pD, pE]; rfl
        refine pw_ 14 31 (bA 18 32767) HT_.out ?_
        refine pw_ 15 32 (bA 18 65535) HT_.out ?_
        refine pw_ 16 33 (bA 18 131071) HT_.out ?_
        refine pw_ 17 4 (bA 18 262143) HT_.out ?_
        refine done_ (done_of HT_.out (by kernel_rfl)) ?_
        clear hHeld HT_ HW_
        go_wp2
        go_ret
        refine ⟨?_, HX.out.2.2.2⟩
        by_cases hq2 : vb ≤ add32 ub b
        · simp [hq2]
        · simp [hq2]
          try omega
end Go.Proofs.YtgihncjllelonaaGreat.Ce
