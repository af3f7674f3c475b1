/- brambleref15: dist; brambleref07: At; brambleref08: Cost. -/
import Derived.Test.YtgihncjllelonaaGreatHt5
import Derived.Test.YtgihncjllelonaaGreatHt35
import Derived.Test.YtgihncjllelonaaGreatHt30
import Derived.Test.YtgihncjllelonaaGreatHt32
import Derived.Test.YtgihncjllelonaaGreatHt28
import Derived.Test.YtgihncjllelonaaGreatHt26
namespace Go.Proofs.YtgihncjllelonaaGreat.Ce
open Go Go.RowKit Go.MapKept Go.Proofs.YtgihncjllelonaaGreat.Mem Go.Proofs.YtgihncjllelonaaGreat.Sl Go.Proofs.YtgihncjllelonaaGreat.Lw Go.Proofs.YtgihncjllelonaaGreat.Wt Go.Proofs.YtgihncjllelonaaGreat.Tb Go.Proofs.YtgihncjllelonaaGreat.Scc Go.Proofs.YtgihncjllelonaaGreat.Tj Go.Proofs.YtgihncjllelonaaGreatW.PrintWords Go.Proofs.YtgihncjllelonaaGreatW.PrintLast
attribute [local go_sem ↓] Go.wp_at_zero Go.wp_at_succ
set_option linter.unusedSimpArgs false
set_option linter.unusedVariables false

def dsG (v : Int) : List Ds → Nat → Int → Int
  | [], _, at_ => at_
  | l :: r, j, at_ => if l.1 = v then (if 0 ≤ at_ then -1 else dsG v r (j + 1) j) else dsG v r (j + 1) at_
def dsI (ls : List Ds) (v : Int) : Int := dsG v ls 0 (-1)
set_option maxHeartbeats 8000000 in
set_option maxRecDepth 100000 in
theorem dist15_calls (w : World) (A : Option Addr) (c : Nat) (ls : List Ds) (v : Int) (h : RdS w A ls) (hl : ls.length ≤ 400) : Calls Tryz.prog 34 #[.slice A ls.length c, .int .i64 v] w fun e w' => e = .returned (.int .i64 (dsI ls v)) ∧ w' = w := by
  obtain ⟨n, hn⟩ : ∃ n, ls.length = n := ⟨_, rfl⟩
  obtain ⟨ans, hans⟩ : ∃ a, dsI ls v = a := ⟨_, rfl⟩
  rw [hn] at hl
  rw [hn, hans]
  have HX := Lib.hid (And.intro h (And.intro hn hans))
  clear h hn hans
  go_enter Tryz.func34, Tryz.ntmps34
  go_wp2_with fail
  go_loopg [5, 6] n (fun kq v5 v6 w' => ∃ (j : Nat) (a : Int), v5 = .int .i64 a ∧ v6 = .int .i64 (j : Int) ∧ Hid (j + kq = n ∧ w' = w ∧ dsG v (ls.drop j) j a = ans))
  case atStart => exact ⟨0, -1, rfl, rfl, Lib.hid ⟨by omega, rfl, HX.out.2.2⟩⟩
  case round =>
    obtain ⟨j, a, rfl, rfl, hJ⟩ := hrel
    obtain ⟨hjk, rfl, hS⟩ := hJ.out
    clear hJ
    by_cases hj : j < n
    · obtain ⟨k1, rfl⟩ : ∃ k1, gk = k1 + 1 := ⟨gk - 1, by omega⟩
      obtain ⟨⟨u, f, b, ed⟩, hx⟩ : ∃ x, ls[j]? = some x := ⟨_, List.getElem?_eq_getElem (by have := HX.out.2.1; omega)⟩
      have hdx : ls.drop j = (u, f, b, ed) :: ls.drop (j + 1) := by
        obtain ⟨e1, e2⟩ := List.getElem?_eq_some_iff.1 hx
        rw [← e2]
        exact (List.getElem_cons_drop e1).symm
      obtain ⟨g, off, hA, x0, x1, x2, x3⟩ := HX.out.1 j u f b ed hx
      subst hA
      have j0 : (0 : Int) ≤ (j : Int) := by omega
      have j1 : (j : Int) < (n : Int) := by omega
      have j2 : (n : Int) ≤ 400 := by omega
      rw [hdx, dsG] at hS
      clear hdx hx x1 x2 x3
      by_cases huv : u = v
      · rw [if_pos huv] at hS
        have q1 : ((u : Int) == v) = true := by rw [huv]; simp
        by_cases ha : 0 ≤ a
        · rw [if_pos ha] at hS
          have q2 : a ≥ 0 := ha
          have HN := Lib.hid hS
          clear hS hjk huv ha hj
          go_wp2
          go_ret
          exact ⟨by rw [← HN.out]; rfl, rfl⟩
        · rw [if_neg ha] at hS
          have q2 : ¬ a ≥ 0 := ha
          have HN := Lib.hid (And.intro hjk hS)
          clear hS hjk huv ha hj
          go_wp2
          go_roundg k1
          case measure => omega
          case rel => exact ⟨j + 1, (j : Int), rfl, by go_num, Lib.hid ⟨by have := HN.out.1; omega, rfl, HN.out.2⟩⟩
      · rw [if_neg huv] at hS
        have q1 : ((u : Int) == v) = false := beq_eq_false_iff_ne.2 huv
        have HN := Lib.hid (And.intro hjk hS)
        clear hS hjk huv hj
        go_wp2
        go_roundg k1
        case measure => omega
        case rel => exact ⟨j + 1, a, rfl, by go_num, Lib.hid ⟨by have := HN.out.1; omega, rfl, HN.out.2⟩⟩
    · obtain rfl : j = n := by omega
      have jn : ¬ ((j : Int) < (j : Int)) := by omega
      have hd : ls.drop j = [] := List.drop_eq_nil_of_le (by have := HX.out.2.1; omega)
      rw [hd, dsG] at hS
      have HN := Lib.hid hS
      clear hS hjk hj hd
      go_wp2
      go_ret
      exact ⟨by rw [← HN.out]; rfl, rfl⟩
def atG (e : Int) : List Ed → Nat → Int
  | [], _ => -1
  | x :: r, j => if x.1 = e then (j : Int) else atG e r (j + 1)
theorem atG_none {e : Int} : ∀ (es : List Ed) (j : Nat), es.find? (fun p => decide (p.1 = e)) = none → atG e es j = -1
  | [], _, _ => rfl
  | x :: r, j, h => by
    rw [List.find?_cons] at h
    by_cases hx : x.1 = e
    · rw [decide_eq_true hx] at h
      cases h
    · rw [decide_eq_false hx] at h
      rw [atG, if_neg hx]
      exact atG_none r (j + 1) h
theorem atG_some {e : Int} {y : Ed} : ∀ (es : List Ed) (j : Nat), es.find? (fun p => decide (p.1 = e)) = some y → ∃ k : Nat, atG e es j = ((j + k : Nat) : Int) ∧ es[k]? = some y
  | [], _, h => by cases h
  | x :: r, j, h => by
    rw [List.find?_cons] at h
    by_cases hx : x.1 = e
    · rw [decide_eq_true hx] at h
      cases h
      exact ⟨0, by rw [atG, if_pos hx, Nat.add_zero], rfl⟩
    · rw [decide_eq_false hx] at h
      obtain ⟨k, h1, h2⟩ := atG_some r (j + 1) h
      exact ⟨k + 1, by rw [atG, if_neg hx, h1, show j + 1 + k = j + (k + 1) by omega], by simpa using h2⟩
set_option maxHeartbeats 8000000 in
set_option maxRecDepth 100000 in
theorem at07_calls {gw : Int} (w : World) (A AE : Option Addr) (n cg ce : Nat) (es : List Ed) (e : Int) (he : RdD w AE es) (hr : es.length ≤ 400) :
    Calls Tryz.prog 82 #[gV A n cg (.slice AE es.length ce) gw, .int .i64 e] w fun en w' => en = .returned (.int .i64 (atG e es 0)) ∧ Below w.heap.size w w' := by
  obtain ⟨ans, hans⟩ : ∃ ans, atG e es 0 = ans := ⟨_, rfl⟩
  rw [hans]
  obtain ⟨m, hm⟩ : ∃ m, es.length = m := ⟨_, rfl⟩
  rw [hm] at hr ⊢
  unfold gV
  have HE := Lib.hid (And.intro he hm)
  have HANS := Lib.hid hans
  clear he hans hm
  go_enter Tryz.func82, Tryz.ntmps82
  go_wp2_with fail
  refine gen_loopw (fun W => At W w.heap.size [.slice A n cg, .slice AE m ce, .int .i64 0, .int .i64 gw] 34 ∧ Below w.heap.size w W) ?_ ?_
  · exact ⟨At.made rfl rfl, (Below.refl _ _).alloc (Nat.le_refl _) _⟩
  obtain ⟨gx, hgx⟩ : ∃ gx, w.heap.size = gx := ⟨_, rfl⟩
  rw [hgx]
  rintro w3 ⟨hat, hb⟩
  rw [← hgx] at hb
  have q1 := hat.cell 1 rfl
  have HB := Lib.hid hb
  clear hat hb hgx
  go_loopg [5] m (fun kq v5 w' => ∃ j : Nat, v5 = .int .i64 (j : Int) ∧ Hid (j + kq = m ∧ w' = w3 ∧ atG e (es.drop j) j = ans))
  case atStart => exact ⟨0, rfl, Lib.hid ⟨by omega, rfl, HANS.out⟩⟩
  case round =>
    obtain ⟨j, rfl, hI⟩ := hrel
    obtain ⟨hjk, rfl, hS⟩ := hI.out
    clear hI
    have j2 : (m : Int) ≤ 400 := by omega
    by_cases hj : j < m
    · obtain ⟨k1, rfl⟩ : ∃ k1, gk = k1 + 1 := ⟨gk - 1, by omega⟩
      obtain ⟨⟨a, u, v, b⟩, hx⟩ : ∃ x, es[j]? = some x := ⟨_, List.getElem?_eq_getElem (by have := HE.out.2; omega)⟩
      have hdx : es.drop j = (a, u, v, b) :: es.drop (j + 1) := by
        obtain ⟨e1, e2⟩ := List.getElem?_eq_some_iff.1 hx
        rw [← e2]
        exact (List.getElem_cons_drop e1).symm
      obtain ⟨be, rfl, qe, -, -, -⟩ := (HE.out.1.below HB.out) j a u v b hx
      rw [hdx, atG] at hS
      have j0 : (0 : Int) ≤ (j : Int) := by omega
      have j1 : (j : Int) < (m : Int) := by omega
      by_cases hae : a = e
      · rw [if_pos hae] at hS
        have e1 : ((a : Int) == e) = true := by rw [hae]; simp
        have HQ := Lib.hid hS
        clear hx hS hdx hjk hj hae
        go_wp2
        go_ret
        exact ⟨by rw [← HQ.out]; rfl, HB.out⟩
      · rw [if_neg hae] at hS
        have e1 : ((a : Int) == e) = false := beq_eq_false_iff_ne.2 hae
        have HN := Lib.hid (And.intro hjk hS)
        clear hx hS hdx hjk hj hae
        go_wp2
        go_roundg k1
        case measure => omega
        case rel => exact ⟨j + 1, by go_num, Lib.hid ⟨by have := HN.out.1; omega, rfl, HN.out.2⟩⟩
    · obtain rfl : m = j := by omega
      have hd : es.drop m = [] := List.drop_eq_nil_of_le (by have := HE.out.2; omega)
      rw [hd, atG] at hS
      have jn : decide ((m : Int) < (m : Int)) = false := by rw [decide_eq_false_iff_not]; omega
      have HQ := Lib.hid hS
      clear hS hjk hj hd
      go_wp2
      go_ret
      exact ⟨by rw [← HQ.out]; rfl, HB.out⟩
def costF (es : List Ed) : Nat → List Int → Nat
  | c, [] => c
  | c, e :: r => costF es (add32 c (eD es e).2.2.2) r
def tb83_5.T5 : Bool × List (List Nat × List Nat) := (true, [([], []), ([0], [0]), ([], []), ([], []), ([], []), ([3, 4], [3, 4]), ([5], [5]), ([2, 6], [2, 6]), ([1, 7], [1, 7]), ([8], [8]), ([], []), ([10, 9, 7, 0, 1, 2, 3, 4, 5, 6, 7, 8, 9, 10], [9, 10])])
def tb83_5.B5 : List Nat := [0, 1, 0, 0, 0, 24, 56, 124, 255, 511, 0, 2047]
theorem tb83_5.tab5 : rtab .any (opsOf Tryz.f83 5) = tb83_5.T5 := by kernel_rfl
theorem tb83_5.bits5 : waitsOk tb83_5.T5.2 tb83_5.B5 = true := by kernel_rfl
set_option maxHeartbeats 8000000 in
set_option maxRecDepth 100000 in
theorem cost08_calls {gw : Int} (w : World) (A AE Al : Option Addr) (n cg ce cl : Nat) (es : List Ed) (ks : List Int) (he : RdD w AE es) (hk : RdI w Al ks) (hr : es.length ≤ 400) (hkl : ks.length ≤ 1000) (hbit : ∀ p ∈ es, p.2.2.2 ≤ 2139095040) (hin : ∀ e ∈ ks, es.find? (fun p => decide (p.1 = e)) ≠ none) :
    Calls Tryz.prog 83 #[gV A n cg (.slice AE es.length ce) gw, .slice Al ks.length cl] w fun en w' => en = .returned (.int .u32 (costF es 0 ks : Int)) ∧ Below w.heap.size w w' := by
  obtain ⟨ans, hans⟩ : ∃ ans, costF es 0 ks = ans := ⟨_, rfl⟩
  rw [hans]
  obtain ⟨m, hm⟩ : ∃ m, es.length = m := ⟨_, rfl⟩
  obtain ⟨q, hq⟩ : ∃ m, ks.length = m := ⟨_, rfl⟩
  rw [hm] at hr ⊢
  rw [hq] at hkl ⊢
  have HE := Lib.hid (And.intro he (And.intro hk (And.intro hm hq)))
  have HBI := Lib.hid (And.intro hbit hin)
  have HANS := Lib.hid hans
  clear he hans hm hk hq hbit hin
  unfold gV
  go_enter Tryz.func83, Tryz.ntmps83
  go_wp2_with fail
  refine gen_loopw (fun W => At W w.heap.size [.slice A n cg, .slice AE m ce, .int .i64 0, .int .i64 gw] 34 ∧ Below w.heap.size w W) ?_ ?_
  · exact ⟨At.made rfl rfl, (Below.refl _ _).alloc (Nat.le_refl _) _⟩
  obtain ⟨gx, hgx⟩ : ∃ gx, w.heap.size = gx := ⟨_, rfl⟩
  rw [hgx]
  rintro w3 ⟨hat, hb⟩
  rw [← hgx] at hb
  have HW := Lib.hid (And.intro hat hb)
  clear hat hb hgx
  go_loopg [5, 6] q (fun kq v5 v6 w' => ∃ j c : Nat, v5 = .int .u32 (c : Int) ∧ v6 = .int .i64 (j : Int) ∧ Hid (j + kq = q ∧ Below w3.heap.size w3 w' ∧ c ≤ 2139095040 ∧ costF es c (ks.drop j) = ans))
  case atStart => exact ⟨0, 0, rfl, rfl, Lib.hid ⟨by omega, Below.refl _ _, by omega, HANS.out⟩⟩
  case round =>
    obtain ⟨j, c, rfl, rfl, hI⟩ := hrel
    obtain ⟨hjk, hb, hc, hS⟩ := hI.out
    clear hI
    have j2 : (q : Int) ≤ 1000 := by omega
    have j3 : (m : Int) ≤ 400 := by omega
    by_cases hj : j < q
    · obtain ⟨k1, rfl⟩ : ∃ k1, gk = k1 + 1 := ⟨gk - 1, by omega⟩
      obtain ⟨e, hx⟩ : ∃ x, ks[j]? = some x := ⟨_, List.getElem?_eq_getElem (by have := HE.out.2.2.2; omega)⟩
      have hdx : ks.drop j = e :: ks.drop (j + 1) := by
        obtain ⟨e1, e2⟩ := List.getElem?_eq_some_iff.1 hx
        rw [← e2]
        exact (List.getElem_cons_drop e1).symm
      have hbel := HW.out.2.trans (hb.mono HW.out.2.size)
      obtain ⟨gl, hgl, ql⟩ := (HE.out.2.1.below hbel) j e hx
      subst hgl
      obtain ⟨⟨e', u, v, b⟩, hf⟩ := Option.ne_none_iff_exists'.1 (HBI.out.2 e (List.mem_of_getElem? hx))
      obtain ⟨k, hk1, hk2⟩ := atG_some es 0 hf
      rw [Nat.zero_add] at hk1
      obtain ⟨be, hbe, ce_, cu_, cv_, cb_⟩ := (HE.out.1.below hbel) k e' u v b hk2
      subst hbe
      have hat3 := HW.out.1.below hb HW.out.1.lt
      have q0 := hat3.cell 0 rfl
      have q1 := hat3.cell 1 rfl
      have q2 := hat3.cell 2 rfl
      have q3 := hat3.cell 3 rfl
      have hkm : k < m := by
        have := (List.getElem?_eq_some_iff.1 hk2).1
        have := HE.out.2.2.1
        omega
      have k0 : (0 : Int) ≤ (k : Int) := by omega
      have k1' : (k : Int) < (m : Int) := by omega
      have HAT := Lib.hid (show ∀ W, Below wr.heap.size wr W → Calls Tryz.prog 82 #[.agg #[.slice A n cg, .slice (some ⟨be, 0, none⟩) m ce, .int .i64 0, .int .i64 gw], .int .i64 e] W fun en w' => en = .returned (.int .i64 (k : Int)) ∧ Below W.heap.size W w' from fun W hW => by
        have := at07_calls (gw := gw) W A (some ⟨be, 0, none⟩) n cg ce es e ((HE.out.1.below hbel).below hW) (by rw [HE.out.2.2.1]; exact hr)
        rw [HE.out.2.2.1, hk1] at this
        exact this)
      have hbb : b ≤ 2139095040 := HBI.out.1 _ (List.mem_of_getElem? hk2)
      rw [hdx, costF, show (eD es e).2.2.2 = b from by unfold eD; rw [hf]; rfl] at hS
      have HAD := Lib.hid (fun W => add01_calls c b W hc hbb)
      have hcl := (add32_some (a := c) (b := b) (by omega) (by omega)).2
      obtain ⟨c', hc'⟩ : ∃ c', add32 c b = c' := ⟨_, rfl⟩
      rw [hc'] at HAD hcl hS
      have j0 : (0 : Int) ≤ (j : Int) := by omega
      have j1 : (j : Int) < (q : Int) := by omega
      have HJ := Lib.hid (And.intro hjk (And.intro hb (And.intro hcl hS)))
      clear hjk hb hcl hS hc' hdx hx hbel hf hk1 hk2 hat3 hbb hj hkm
      go_upto_region 5 with (fail)
      obtain ⟨wd, hwd⟩ : ∃ wd, wr.drew = wd := ⟨_, rfl⟩
      have hbd : Below wr.heap.size wr wd := by rw [← hwd]; exact (Below.refl _ _).drew
      have q0 := keep_at hbd q0
      have q1 := keep_at hbd q1
      have q2 := keep_at hbd q2
      have q3 := keep_at hbd q3
      have ql := keep_at hbd ql
      have ce_ := keep_at hbd ce_
      have cu_ := keep_at hbd cu_
      have cv_ := keep_at hbd cv_
      have cb_ := keep_at hbd cb_
      have HBD := Lib.hid hbd
      have HAT := Lib.hid (fun W (hW : Below wd.heap.size wd W) => HAT.out W (HBD.out.trans (hW.mono HBD.out.size)))
      clear hbd
      refine start_ (n := 12) (S := fun w' => w'.cell? ⟨gx, 0, none⟩ = some (.slice A n cg) ∧ w'.cell? ⟨gx, 1, none⟩ = some (.slice (some ⟨be, 0, none⟩) m ce) ∧ w'.cell? ⟨gx, 2, none⟩ = some (.int .i64 0) ∧ w'.cell? ⟨gx, 3, none⟩ = some (.int .i64 gw) ∧ w'.cell? ⟨gl, j, none⟩ = some (.int .i64 e) ∧ w'.cell? ⟨be, k * 4, none⟩ = some (.int .i64 e') ∧ w'.cell? ⟨be, k * 4 + 1, none⟩ = some (.int .i64 u) ∧ w'.cell? ⟨be, k * 4 + 2, none⟩ = some (.int .i64 v) ∧ w'.cell? ⟨be, k * 4 + 3, none⟩ = some (.int .u32 (b : Int))) (ds := [11]) (bA 12 0) (by kernel_rfl) rfl rfl ⟨(by rw [hwd]; exact q0), (by rw [hwd]; exact q1), (by rw [hwd]; exact q2), (by rw [hwd]; exact q3), (by rw [hwd]; exact ql), (by rw [hwd]; exact ce_), (by rw [hwd]; exact cu_), (by rw [hwd]; exact cv_), (by rw [hwd]; exact cb_)⟩ (fun hHeld => ?_)
      rw [hwd] at hHeld ⊢
      refine with_tabW tb83_5.tab5 tb83_5.bits5 (fun HT_ HW_ => ?_)
      refine pw_ 0 14 (bA 12 1) HT_.out ?_
      refine pw_ 3 17 (bA 12 9) HT_.out ?_
      refine pw_ 4 18 (bA 12 25) HT_.out ?_
      refine pw_ 5 19 (bA 12 57) HT_.out ?_
      refine tw_ 1 15 (bA 12 59) HT_.out HW_.out hHeld (hv := by rintro w' ⟨s0, s1, s2, s3, s4, s5, s6, s7, s8⟩; go_simp; with_reducible rfl) (h := ?_)
      refine tw_ 2 16 (bA 12 63) HT_.out HW_.out hHeld (hv := by rintro w' ⟨s0, s1, s2, s3, s4, s5, s6, s7, s8⟩; go_simp; with_reducible rfl) (h := ?_)
      refine tw_ 6 20 (bA 12 127) HT_.out HW_.out hHeld (hv := by rintro w' ⟨s0, s1, s2, s3, s4, s5, s6, s7, s8⟩; go_simp; with_reducible rfl) (h := ?_)
      refine join_ (σ := Value × Value) 1 (bA 12 2047) (fun s => [(21, s.1), (22, .pointer (some ⟨be, k * 4, none⟩)), (23, .agg #[.int .i64 e', .int .i64 u, .int .i64 v, .int .u32 (b : Int)]), (7, s.2)]) (fun s w' => s.1 = .int .i64 (k : Int) ∧ ∃ g7, s.2 = .pointer (some ⟨g7, 0, none⟩) ∧ At w' g7 [.int .i64 0, .int .i64 0, .int .i64 0, .int .u32 0] 74 ∧ wd.heap.size ≤ g7 ∧ Below wd.heap.size wd w') ?_ ?_
      rotate_left
      · intro hCont
        refine two_ (i := 7) (j := 10) (Ni := some 21) (Nj := some 7) (bA 12 255) (bA 12 1151) rfl rfl rfl rfl (two_of HT_.out (by kernel_rfl)) (by decide) (by decide) (fun K hK => ?_) (fun K hK => ?_)
        · skip
          refine gw_ Tryz.func82 #[.agg #[.slice A n cg, .slice (some ⟨be, 0, none⟩) m ce, .int .i64 0, .int .i64 gw], .int .i64 e] ?_
          with_reducible refine ((HAT.out wd (Below.refl _ _))).mono ?_
          rintro en wa ⟨rfl, hb_wa⟩
          refine ⟨_, rfl, ?_⟩
          have HBA := Lib.hid hb_wa
          clear hb_wa
          refine hK.out _ _ ⟨(keep_at HBA.out q0), (keep_at HBA.out q1), (keep_at HBA.out q2), (keep_at HBA.out q3), (keep_at HBA.out ql), (keep_at HBA.out ce_), (keep_at HBA.out cu_), (keep_at HBA.out cv_), (keep_at HBA.out cb_)⟩ (fun hHeld => ?_)
          clear hK K
          refine norm_ (a' := ?_) ?_ ?_
          rotate_left
          · show Act.put _ (some 21) _ = _
            simp only [Act.put, pA, pB, pC, pD, pE]; rfl
          refine pw_ 8 22 (bA 12 511) HT_.out ?_
          refine tw_ 9 23 (bA 12 1023) HT_.out HW_.out hHeld (hv := by rintro w' ⟨s0, s1, s2, s3, s4, s5, s6, s7, s8⟩; go_simp; with_reducible rfl) (h := ?_)
          refine one_ (i := 10) (N := some 7) (bA 12 2047) rfl rfl (one_of HT_.out (by kernel_rfl)) (by decide) (fun K hK => ?_)
          refine value_ (w1 := ?_) (v := ?_) (by rfl) rfl ?_ ?_
          rotate_left 2
          · go_simp
            constructor
            · rfl
            · rfl
          have HL := Lib.hid (show At (wa.alloc (.cells #[.int .i64 0, .int .i64 0, .int .i64 0, .int .u32 0] 74)) wa.heap.size [.int .i64 0, .int .i64 0, .int .i64 0, .int .u32 0] 74 ∧ wd.heap.size ≤ wa.heap.size from ⟨At.made rfl rfl, HBA.out.size⟩)
          have HBT := Lib.hid (HBA.out.alloc HBA.out.size (.cells #[.int .i64 0, .int .i64 0, .int .i64 0, .int .u32 0] 74))
          refine hK.out _ _ ⟨(keep_at HBT.out q0), (keep_at HBT.out q1), (keep_at HBT.out q2), (keep_at HBT.out q3), (keep_at HBT.out ql), (keep_at HBT.out ce_), (keep_at HBT.out cu_), (keep_at HBT.out cv_), (keep_at HBT.out cb_)⟩ (fun hHeld => ?_)
          clear hK K
          refine norm_ (a' := ?_) ?_ ?_
          rotate_left
          · show Act.put _ (some 7) _ = _
            simp only [Act.put, pA, pB, pC, pD, pE]; rfl
          exact norm_ (by simp only [putAll, Act.put, List.setIfInBounds_toArray, List.set_cons_zero, List.set_cons_succ]) (hCont (.int .i64 (k : Int), .pointer (some ⟨wa.heap.size, 0, none⟩)) _ ⟨rfl, _, rfl, HL.out.1, HL.out.2, HBT.out⟩)
        · skip
          refine value_ (w1 := ?_) (v := ?_) (by rfl) rfl ?_ ?_
          rotate_left 2
          · go_simp
            constructor
            · rfl
            · rfl
          have HBZ := Lib.hid (show Below wd.heap.size wd (wd.alloc (.cells #[.int .i64 0, .int .i64 0, .int .i64 0, .int .u32 0] 74)) from (Below.refl _ _).alloc (Nat.le_refl _) _)
          have HL := Lib.hid (show At (wd.alloc (.cells #[.int .i64 0, .int .i64 0, .int .i64 0, .int .u32 0] 74)) wd.heap.size [.int .i64 0, .int .i64 0, .int .i64 0, .int .u32 0] 74 ∧ wd.heap.size ≤ wd.heap.size from ⟨At.made rfl rfl, Nat.le_refl _⟩)
          refine hK.out _ _ ⟨(keep_at HBZ.out q0), (keep_at HBZ.out q1), (keep_at HBZ.out q2), (keep_at HBZ.out q3), (keep_at HBZ.out ql), (keep_at HBZ.out ce_), (keep_at HBZ.out cu_), (keep_at HBZ.out cv_), (keep_at HBZ.out cb_)⟩ (fun hHeld => ?_)
          clear hK K
          refine norm_ (a' := ?_) ?_ ?_
          rotate_left
          · show Act.put _ (some 7) _ = _
            simp only [Act.put, pA, pB, pC, pD, pE]; rfl
          refine one_ (i := 7) (N := some 21) (bA 12 1279) rfl rfl (one_of HT_.out (by kernel_rfl)) (by decide) (fun K hK => ?_)
          refine gw_ Tryz.func82 #[.agg #[.slice A n cg, .slice (some ⟨be, 0, none⟩) m ce, .int .i64 0, .int .i64 gw], .int .i64 e] ?_
          with_reducible refine ((HAT.out _ HBZ.out)).mono ?_
          rintro en wa ⟨rfl, hb_wa⟩
          refine ⟨_, rfl, ?_⟩
          have HBT := Lib.hid (HBZ.out.trans (hb_wa.mono HBZ.out.size))
          have HL := Lib.hid (And.intro (HL.out.1.below hb_wa HL.out.1.lt) HL.out.2)
          clear hb_wa
          refine hK.out _ _ ⟨(keep_at HBT.out q0), (keep_at HBT.out q1), (keep_at HBT.out q2), (keep_at HBT.out q3), (keep_at HBT.out ql), (keep_at HBT.out ce_), (keep_at HBT.out cu_), (keep_at HBT.out cv_), (keep_at HBT.out cb_)⟩ (fun hHeld => ?_)
          clear hK K
          refine norm_ (a' := ?_) ?_ ?_
          rotate_left
          · show Act.put _ (some 21) _ = _
            simp only [Act.put, pA, pB, pC, pD, pE]; rfl
          refine pw_ 8 22 (bA 12 1535) HT_.out ?_
          refine tw_ 9 23 (bA 12 2047) HT_.out HW_.out hHeld (hv := by rintro w' ⟨s0, s1, s2, s3, s4, s5, s6, s7, s8⟩; go_simp; with_reducible rfl) (h := ?_)
          exact norm_ (by simp only [putAll, Act.put, List.setIfInBounds_toArray, List.set_cons_zero, List.set_cons_succ]) (hCont (.int .i64 (k : Int), .pointer (some ⟨wd.heap.size, 0, none⟩)) _ ⟨rfl, _, rfl, HL.out.1, HL.out.2, HBT.out⟩)
      rintro ⟨s1, s2⟩ wc ⟨g1, g7, g2, g3, g5, g4⟩
      dsimp only at g1 g2
      subst g1 g2
      have HG := Lib.hid (And.intro g3 (And.intro g5 g4))
      have c70 := g3.cell 0 rfl
      have c71 := g3.cell 1 rfl
      have c72 := g3.cell 2 rfl
      have c73 := g3.cell 3 rfl
      have f70 := g3.free 0
      have f71 := g3.free 1
      have f72 := g3.free 2
      have f73 := g3.free 3
      have hHeld : wc.cell? ⟨gx, 0, none⟩ = some (.slice A n cg) ∧ wc.cell? ⟨gx, 1, none⟩ = some (.slice (some ⟨be, 0, none⟩) m ce) ∧ wc.cell? ⟨gx, 2, none⟩ = some (.int .i64 0) ∧ wc.cell? ⟨gx, 3, none⟩ = some (.int .i64 gw) ∧ wc.cell? ⟨gl, j, none⟩ = some (.int .i64 e) ∧ wc.cell? ⟨be, k * 4, none⟩ = some (.int .i64 e') ∧ wc.cell? ⟨be, k * 4 + 1, none⟩ = some (.int .i64 u) ∧ wc.cell? ⟨be, k * 4 + 2, none⟩ = some (.int .i64 v) ∧ wc.cell? ⟨be, k * 4 + 3, none⟩ = some (.int .u32 (b : Int)) := ⟨keep_at g4 q0, keep_at g4 q1, keep_at g4 q2, keep_at g4 q3, keep_at g4 ql, keep_at g4 ce_, keep_at g4 cu_, keep_at g4 cv_, keep_at g4 cb_⟩
      clear g3 g4 g5
      refine norm_ (a' := ?_) ?_ ?_
      rotate_left; · simp only [putAll, Act.put, List.setIfInBounds_toArray, List.set_cons_zero, List.set_cons_succ]; rfl
      refine last_ (i := 11) (N := none) (bA 12 4095) rfl rfl (one_of HT_.out (by kernel_rfl)) (by decide) (fun K hK => ?_)
      refine skip_ (w1 := ?_) (by rfl) rfl ?_ ?_
      rotate_left; · go_simp; rfl
      refine hK.out _ _ ?_; clear hK K
      refine done_ (done_of HT_.out (by kernel_rfl)) ?_
      clear hHeld HT_ HW_; clear q0 q1 q2 q3 ql ce_ cu_ cv_ cb_ HAT hwd; clear c70 c71 c72 c73 f70 f71 f72 f73
      have a4 : At _ g7 [.int .i64 e', .int .i64 u, .int .i64 v, .int .u32 (b : Int)] 74 := (((HG.out.1.set 0 (.int .i64 e')).set 1 (.int .i64 u)).set 2 (.int .i64 v)).set 3 (.int .u32 (b : Int))
      have hbw := (((HG.out.2.2.setCell (p := ⟨g7, 0, none⟩) HG.out.2.1 (.int .i64 e')).setCell (p := ⟨g7, 1, none⟩) HG.out.2.1 (.int .i64 u)).setCell (p := ⟨g7, 2, none⟩) HG.out.2.1 (.int .i64 v)).setCell (p := ⟨g7, 3, none⟩) HG.out.2.1 (.int .u32 (b : Int))
      obtain ⟨ww, hww⟩ : ∃ ww, (((wc.setCell ⟨g7, 0, none⟩ (.int .i64 e')).setCell ⟨g7, 1, none⟩ (.int .i64 u)).setCell ⟨g7, 2, none⟩ (.int .i64 v)).setCell ⟨g7, 3, none⟩ (.int .u32 (b : Int)) = ww := ⟨_, rfl⟩
      rw [hww] at a4 hbw ⊢
      have c9 := a4.cell 3 rfl
      have HB4 := Lib.hid (HJ.out.2.1.trans ((HBD.out.trans (hbw.mono HBD.out.size)).mono HJ.out.2.1.size))
      clear a4 hbw hww HG HBD
      go_wp2_with fail
      refine (HAD.out ww).mono ?_
      clear HAD
      rintro e2 wz ⟨rfl, hbz⟩
      have HBZ := Lib.hid (HB4.out.trans (hbz.mono HB4.out.size))
      clear hbz c9
      go_wp2
      go_roundg k1
      case measure => have := HJ.out.1; omega
      case rel => exact ⟨j + 1, c', rfl, by go_num, Lib.hid ⟨by have := HJ.out.1; omega, HBZ.out, HJ.out.2.2.1, HJ.out.2.2.2⟩⟩
    · obtain rfl : q = j := by omega
      have hd : ks.drop q = [] := List.drop_eq_nil_of_le (by have := HE.out.2.2.2; omega)
      rw [hd, costF] at hS
      have jn : decide ((q : Int) < (q : Int)) = false := by rw [decide_eq_false_iff_not]; omega
      have HQ := Lib.hid (And.intro hS (HW.out.2.trans (hb.mono HW.out.2.size)))
      clear hS hjk hj hd hb
      go_wp2
      go_ret
      exact ⟨by rw [← HQ.out.1]; rfl, HQ.out.2⟩
end Go.Proofs.YtgihncjllelonaaGreat.Ce

/- brambleref15: way. -/
namespace Go.Proofs.YtgihncjllelonaaGreat.Ce
open Go Go.RowKit Go.MapKept Go.Proofs.YtgihncjllelonaaGreat.Mem Go.Proofs.YtgihncjllelonaaGreat.Sl Go.Proofs.YtgihncjllelonaaGreat.Lw Go.Proofs.YtgihncjllelonaaGreat.Wt Go.Proofs.YtgihncjllelonaaGreat.Tb Go.Proofs.YtgihncjllelonaaGreat.Scc Go.Proofs.YtgihncjllelonaaGreat.Tj Go.Proofs.YtgihncjllelonaaGreatW.PrintWords Go.Proofs.YtgihncjllelonaaGreatW.PrintLast
attribute [local go_sem ↓] Go.wp_at_zero Go.wp_at_succ
set_option linter.unusedSimpArgs false
set_option linter.unusedVariables false

theorem dsG_not {v : Int} : ∀ (ls : List Ds) (j : Nat) (a : Int), v ∉ ls.map (·.1) → dsG v ls j a = a
  | [], _, _, _ => rfl
  | l :: r, j, a, h => by
    simp only [List.map_cons, List.mem_cons, not_or] at h
    rw [dsG, if_neg (fun e => h.1 e.symm), dsG_not r (j + 1) a h.2]
theorem dsG_one {v : Int} {y : Ds} : ∀ (ls : List Ds) (j i : Nat), (ls.map (·.1)).Nodup → ls[i]? = some y → y.1 = v → dsG v ls j (-1) = ((j + i : Nat) : Int)
  | [], _, _, _, h, _ => by simp at h
  | l :: r, j, 0, hn, h, hy => by
    have : l = y := by simpa using h
    subst this
    simp only [List.map_cons, List.nodup_cons] at hn
    rw [dsG, if_pos hy, if_neg (by omega), dsG_not r (j + 1) _ (hy ▸ hn.1), Nat.add_zero]
  | l :: r, j, i + 1, hn, h, hy => by
    simp only [List.map_cons, List.nodup_cons] at hn
    have h2 : r[i]? = some y := by simpa using h
    have hm : v ∈ r.map (·.1) := List.mem_map.2 ⟨y, List.mem_of_getElem? h2, hy⟩
    rw [dsG, if_neg (fun e : l.1 = v => hn.1 (by rw [e]; exact hm)), dsG_one r (j + 1) i hn.2 h2 hy, show j + 1 + i = j + (i + 1) by omega]
theorem dsI_mem {ls : List Ds} {v : Int} (h : 0 ≤ dsI ls v) : v ∈ ls.map (·.1) := by
  by_cases hm : v ∈ ls.map (·.1)
  · exact hm
  · unfold dsI at h
    rw [dsG_not ls 0 (-1) hm] at h
    omega
theorem dsI_at {ls : List Ds} {v : Int} (hn : (ls.map (·.1)).Nodup) (hm : v ∈ ls.map (·.1)) : ∃ i : Nat, dsI ls v = (i : Int) ∧ ls[i]? = some (dD ls v) ∧ (dD ls v).1 = v := by
  obtain ⟨y, hy, hyv⟩ := List.mem_map.1 hm
  obtain ⟨i, hi, he⟩ := List.getElem_of_mem hy
  have h1 : ls[i]? = some y := by rw [List.getElem?_eq_getElem hi, he]
  have h2 := dD_of hn hy
  rw [hyv] at h2
  refine ⟨i, ?_, by rw [h2]; exact h1, by rw [h2]; exact hyv⟩
  unfold dsI
  rw [dsG_one ls 0 i hn h1 hyv, Nat.zero_add]
def wayL (es : List Ed) (ds : List Ds) (s : Int) (n : Nat) : Nat → Int → List Int → Option (List Int)
  | 0, _, _ => none
  | k + 1, at_, ks => if at_ = s then some ks else match es.find? (fun p => decide (p.1 = (dD ds at_).2.2.2)) with
    | none => none
    | some x => if x.2.2.1 = at_ ∧ ks.length ≤ n then wayL es ds s n k x.2.1 ((dD ds at_).2.2.2 :: ks) else none
def wayB (es : List Ed) (ds : List Ds) (s : Int) (n : Nat) (v : Int) (d : Nat) : Bool := match wayL es ds s n (n + 2) v [] with
  | none => false
  | some ks => decide (costF es 0 ks = d)
theorem rdV_ints {w : World} {base n c : Nat} {e : TypeId} {A : Option Addr} {l : List Int} (h : w.ownsRow base e 1 (.slice A n c) n (ints l)) : RdV w (.slice A n c) n 1 (ints l) := by
  refine ⟨by have := h.1; omega, fun u hu => by
    unfold ints at hu
    obtain ⟨x, _, rfl⟩ := List.mem_map.1 hu
    rfl, ?_⟩
  rcases h.2 with ⟨h1, h2⟩ | ⟨g, cap, cur, h1, _⟩
  · exact .inl ⟨h2 ▸ h1, h2⟩
  · cases h1
    refine .inr ⟨_, _, rfl, fun j u hu => ?_⟩
    have hj := (List.getElem?_eq_some_iff.1 hu).1
    have := (h.cellAt j (by have := h.1; omega)).trans hu
    rw [add_plain]
    simpa using this
def tb35_4.T4 : Bool × List (List Nat × List Nat) := (true, [([], []), ([0], [0]), ([], []), ([2], [2]), ([], []), ([3, 4], [3, 4]), ([1, 5], [1, 5]), ([6], [6]), ([7], [7]), ([8, 5, 0, 1, 2, 3, 4, 5, 6, 7, 8], [8])])
def tb35_4.B4 : List Nat := [0, 1, 0, 4, 0, 28, 63, 127, 255, 511]
theorem tb35_4.tab4 : rtab .any (opsOf Tryz.f35 4) = tb35_4.T4 := by kernel_rfl
theorem tb35_4.bits4 : waitsOk tb35_4.T4.2 tb35_4.B4 = true := by kernel_rfl
structure WyM (gw : Int) (w : World) (gx gt : Nat) (A AE AD : Option Addr) (n cg m ce nd cd : Nat) (s : Int) (W : World) : Prop where
  x : At W gx [.slice A n cg, .slice AE m ce, .int .i64 0, .int .i64 gw] 34
  t : At W gt [.int .i64 s, .slice AD nd cd] 26
  b : Below w.heap.size w W
theorem WyM.below {gw : Int} {w W W' : World} {gx gt : Nat} {A AE AD : Option Addr} {n cg m ce nd cd : Nat} {s : Int} (h : WyM gw w gx gt A AE AD n cg m ce nd cd s W) (hb : Below W.heap.size W W') : WyM gw w gx gt A AE AD n cg m ce nd cd s W' := ⟨h.x.below hb h.x.lt, h.t.below hb h.t.lt, h.b.trans (hb.mono h.b.size)⟩
set_option maxHeartbeats 16000000 in
set_option maxRecDepth 100000 in
theorem way_calls {gw : Int} (w : World) (A AE AD : Option Addr) (cg ce cd : Nat) (sl : List Int) (es : List Ed) (ds : List Ds) (s v : Int) (d : Nat) (he : RdD w AE es) (hd : RdS w AD ds) (hr : es.length ≤ 400) (hl : sl.length ≤ 400) (hdl : ds.length ≤ 400) (hbit : ∀ p ∈ es, p.2.2.2 ≤ 2139095040) (hes : ∀ p ∈ es, p.2.1 ∈ sl) (hN : (ds.map (·.1)).Nodup) (hK : ∀ u ∈ sl, u ∈ ds.map (·.1)) (hv : v ∈ sl) :
    Calls Tryz.prog 35 #[gV A sl.length cg (.slice AE es.length ce) gw, .agg #[.int .i64 s, .slice AD ds.length cd], .int .i64 v, .int .u32 (d : Int)] w fun en w' => en = .returned (.bool (wayB es ds s sl.length v d)) ∧ Below w.heap.size w w' := by
  obtain ⟨i1, hi1, hz1, hs1, hy1⟩ := info_parts Lw.info_int
  obtain ⟨ans, hans⟩ : ∃ ans, wayB es ds s sl.length v d = ans := ⟨_, rfl⟩
  rw [hans]
  unfold wayB at hans
  obtain ⟨m, hm⟩ : ∃ m, es.length = m := ⟨_, rfl⟩
  obtain ⟨n, hn⟩ : ∃ m, sl.length = m := ⟨_, rfl⟩
  obtain ⟨nd, hnd⟩ : ∃ m, ds.length = m := ⟨_, rfl⟩
  rw [hm] at hr ⊢
  rw [hn] at hl hans ⊢
  rw [hnd] at hdl ⊢
  have HE := Lib.hid (And.intro he (And.intro hd (And.intro hm (And.intro hn hnd))))
  have HBI := Lib.hid (And.intro hbit (And.intro hes (And.intro hN hK)))
  obtain ⟨R, hR⟩ : ∃ R, wayL es ds s n (n + 2) v [] = R := ⟨_, rfl⟩
  rw [hR] at hans
  have HANS := Lib.hid (And.intro hans (And.intro hR hv))
  clear he hd hans hm hn hnd hbit hes hN hK hR hv
  unfold gV
  go_enter Tryz.func35, Tryz.ntmps35
  go_wp2_with fail
  refine gen_loopw (fun W => WyM gw w w.heap.size (w.heap.size + 1) A AE AD n cg m ce nd cd s W) ?_ ?_
  · exact ⟨(At.made rfl rfl).al, At.made (by simp) rfl, ((Below.refl _ _).alloc (Nat.le_refl _) _).alloc (by simp) _⟩
  obtain ⟨gx, hgx⟩ : ∃ gx, w.heap.size = gx := ⟨_, rfl⟩
  obtain ⟨gt, hgt⟩ : ∃ gi, w.heap.size + 1 = gi := ⟨_, rfl⟩
  rw [hgt, hgx]
  clear hgx hgt
  intro w3 hG
  have HG3 := Lib.hid hG
  clear hG
  have j3 : (m : Int) ≤ 400 := by omega
  have j4 : (nd : Int) ≤ 400 := by omega
  have j5 : (n : Int) ≤ 400 := by omega
  go_loopg [9, 10] (n + 2) (fun kq v9 v10 w' => ∃ (at_ : Int) (ks : List Int) (q : Nat), v10 = .int .i64 at_ ∧ Hid (ks.length = q ∧ q + kq = n + 2 ∧ q ≤ n + 1 ∧ w'.ownsRow w3.heap.size 3 1 v9 q (ints ks) ∧ WyM gw w gx gt A AE AD n cg m ce nd cd s w' ∧ Below w3.heap.size w3 w' ∧ at_ ∈ sl ∧ (∀ e ∈ ks, es.find? (fun p => decide (p.1 = e)) ≠ none) ∧ wayL es ds s n kq at_ ks = R))
  case atStart => exact ⟨v, [], 0, rfl, Lib.hid ⟨rfl, by omega, by omega, World.ownsRow_nil _ _ _ _, HG3.out, Below.refl _ _, HANS.out.2.2, fun e h => by simp at h, HANS.out.2.1⟩⟩
  case round =>
    obtain ⟨at_, ks, q, rfl, hI⟩ := hrel
    obtain ⟨hq, hk, hqn, ho, hG, hb, ha, hf, hR⟩ := hI.out
    clear hI
    have t0 := hG.t.cell 0 rfl
    have q0 := hG.x.cell 0 rfl
    have q1 := hG.x.cell 1 rfl
    have q2 := hG.x.cell 2 rfl
    have q3 := hG.x.cell 3 rfl
    obtain ⟨A9, c9, rfl⟩ := Lw.own_slice ho
    obtain ⟨k1, rfl⟩ : ∃ k1, gk = k1 + 1 := ⟨gk - 1, by omega⟩
    rw [wayL] at hR
    by_cases hs : at_ = s
    · rw [if_pos hs] at hR
      subst hs
      have e1 : ((at_ : Int) == at_) = true := by simp
      have hc := cost08_calls (gw := gw) wr A AE A9 n cg ce c9 es ks (HE.out.1.below hG.b) (RdI.of_own ho).1 (by rw [HE.out.2.2.1]; exact hr) (by omega) HBI.out.1 hf
      rw [HE.out.2.2.1, hq] at hc
      obtain ⟨cst, hcst⟩ : ∃ c, costF es 0 ks = c := ⟨_, rfl⟩
      rw [hcst] at hc
      have HC := Lib.hid hc
      have HQ := Lib.hid (show decide (cst = d) = ans from by
        rw [← HANS.out.1, ← hR, ← hcst])
      have HGB := Lib.hid hG.b
      clear hR hc hcst hq hk ho hG hb ha hf
      go_wp2_with fail
      refine HC.out.mono ?_
      clear HC
      rintro en w4 ⟨rfl, hb4⟩
      have HB4 := Lib.hid (HGB.out.trans (hb4.mono HGB.out.size))
      clear hb4
      go_wp2
      go_ret
      refine ⟨?_, HB4.out⟩
      rw [← HQ.out]
      by_cases hcd : cst = d
      · subst hcd
        simp
      · rw [decide_eq_false hcd, show ((cst : Int) == (d : Int)) = false from beq_eq_false_iff_ne.2 (by omega)]
        rfl
    · rw [if_neg hs] at hR
      have e1 : ((at_ : Int) == s) = false := beq_eq_false_iff_ne.2 hs
      obtain ⟨i, hi1', hi2', hi3'⟩ := dsI_at HBI.out.2.2.1 (HBI.out.2.2.2 at_ ha)
      obtain ⟨⟨v', f', b', ed⟩, hy⟩ : ∃ y, dD ds at_ = y := ⟨_, rfl⟩
      rw [hy] at hi2' hR
      have hR' : (match es.find? (fun p => decide (p.1 = ed)) with | none => none | some x => if x.2.2.1 = at_ ∧ ks.length ≤ n then wayL es ds s n k1 x.2.1 (ed :: ks) else none) = R := hR
      clear hR hi3'
      obtain ⟨gd, off, hAD, x0, x1, x2, x3⟩ := (HE.out.2.1.below hG.b) i v' f' b' ed hi2'
      subst hAD
      have t1 := hG.t.cell 1 rfl
      have hin : i < nd := by
        have := (List.getElem?_eq_some_iff.1 hi2').1
        have := HE.out.2.2.2.2
        omega
      have i0 : (0 : Int) ≤ (i : Int) := by omega
      have i1' : (i : Int) < (nd : Int) := by omega
      have HDI := Lib.hid (show ∀ W, Below wr.heap.size wr W → Calls Tryz.prog 34 #[.slice (some ⟨gd, off, none⟩) nd cd, .int .i64 at_] W fun e w' => e = .returned (.int .i64 (i : Int)) ∧ w' = W from fun W hW => by
        have := dist15_calls W (some ⟨gd, off, none⟩) cd ds at_ ((HE.out.2.1.below hG.b).below hW) (by rw [HE.out.2.2.2.2]; exact hdl)
        rw [HE.out.2.2.2.2, hi1'] at this
        exact this)
      have HAT := Lib.hid (show ∀ W, Below wr.heap.size wr W → Calls Tryz.prog 82 #[.agg #[.slice A n cg, .slice AE m ce, .int .i64 0, .int .i64 gw], .int .i64 ed] W fun en w' => en = .returned (.int .i64 (atG ed es 0)) ∧ Below W.heap.size W w' from fun W hW => by
        have := at07_calls (gw := gw) W A AE n cg ce es ed ((HE.out.1.below hG.b).below hW) (by rw [HE.out.2.2.1]; exact hr)
        rw [HE.out.2.2.1] at this
        exact this)
      have HJ := Lib.hid (And.intro hq (And.intro hk (And.intro hqn (And.intro ho (And.intro hG (And.intro hb (And.intro hf hR')))))))
      clear hq hk hqn ho hG hb hf hR' ha hi1' hi2' hy x0 x1 x2 hin hs
      go_upto_region 4 with (fail)
      clear t0 q0 q1 q2 q3
      refine start_ (n := 10) (S := fun w' => w'.cell? ⟨gt, 1, none⟩ = some (.slice (some ⟨gd, off, none⟩) nd cd) ∧ w'.cell? ⟨gd, off + i * 4 + 3, none⟩ = some (.int .i64 ed)) (ds := []) (bA 10 0) (by kernel_rfl) rfl rfl ⟨(show (wr.drew).cell? _ = _ from t1), (show (wr.drew).cell? _ = _ from x3)⟩ (fun hHeld => ?_)
      refine with_tabW tb35_4.tab4 tb35_4.bits4 (fun HT_ HW_ => ?_)
      refine pw_ 0 18 (bA 10 1) HT_.out ?_
      refine pw_ 2 20 (bA 10 5) HT_.out ?_
      refine pw_ 4 22 (bA 10 21) HT_.out ?_
      refine tw_ 1 19 (bA 10 23) HT_.out HW_.out hHeld (hv := by rintro w' ⟨s0, s1⟩; go_simp; with_reducible rfl) (h := ?_)
      refine tw_ 3 21 (bA 10 31) HT_.out HW_.out hHeld (hv := by rintro w' ⟨s0, s1⟩; go_simp; with_reducible rfl) (h := ?_)
      refine one_ (i := 5) (N := some 23) (bA 10 63) rfl rfl (one_of HT_.out (by kernel_rfl)) (by decide) (fun K hK => ?_)
      refine gw_ Tryz.func34 #[.slice (some ⟨gd, off, none⟩) nd cd, .int .i64 at_] ?_
      with_reducible refine ((HDI.out wr.drew (Below.refl _ _).drew)).mono ?_
      rintro en wa ⟨rfl, rfl⟩
      refine ⟨_, rfl, ?_⟩
      refine hK.out _ _ ⟨(show (wr.drew).cell? _ = _ from t1), (show (wr.drew).cell? _ = _ from x3)⟩ (fun hHeld => ?_)
      clear hK K
      refine norm_ (a' := ?_) ?_ ?_
      rotate_left
      · show Act.put _ (some 23) _ = _
        simp only [Act.put, pA, pB, pC, pD, pE]; rfl
      refine pw_ 6 24 (bA 10 127) HT_.out ?_
      refine pw_ 7 25 (bA 10 255) HT_.out ?_
      refine tw_ 8 26 (bA 10 511) HT_.out HW_.out hHeld (hv := by rintro w' ⟨s0, s1⟩; go_simp; with_reducible rfl) (h := ?_)
      refine pw_ 9 11 (bA 10 1023) HT_.out ?_
      refine done_ (done_of HT_.out (by kernel_rfl)) ?_
      clear hHeld HT_ HW_; clear t1 x3 HDI
      obtain ⟨wd, hwd⟩ : ∃ wd, wr.drew = wd := ⟨_, rfl⟩
      rw [hwd]
      have hbd : Below wr.heap.size wr wd := by rw [← hwd]; exact (Below.refl _ _).drew
      have HGd := Lib.hid (And.intro (HJ.out.2.2.2.2.1.below hbd) (And.intro (HJ.out.2.2.2.2.2.1.trans (hbd.mono HJ.out.2.2.2.2.2.1.size)) (show wd.ownsRow w3.heap.size 3 1 (.slice A9 q c9) q (ints ks) from by rw [← hwd]; exact own_drew HJ.out.2.2.2.1)))
      have HAT := Lib.hid (HAT.out wd hbd)
      clear hbd hwd
      have q0 := HGd.out.1.x.cell 0 rfl
      have q1 := HGd.out.1.x.cell 1 rfl
      have q2 := HGd.out.1.x.cell 2 rfl
      have q3 := HGd.out.1.x.cell 3 rfl
      cases hfe : es.find? (fun p => decide (p.1 = ed)) with
      | none =>
        have hR := HJ.out.2.2.2.2.2.2.2
        rw [hfe] at hR
        have hat := atG_none es 0 hfe
        rw [hat] at HAT
        have HQ := Lib.hid (show false = ans from by rw [← HANS.out.1, ← hR])
        clear hR hat hfe HJ
        go_wp2_with fail
        refine HAT.out.mono ?_
        clear HAT
        rintro en w4 ⟨rfl, hb4⟩
        have HB4 := Lib.hid (HGd.out.1.b.trans (hb4.mono HGd.out.1.b.size))
        clear hb4 q0 q1 q2 q3
        go_wp2
        go_ret
        exact ⟨by rw [← HQ.out]; rfl, HB4.out⟩
      | some x =>
        obtain ⟨e', u, vv, bb⟩ := x
        have hR := HJ.out.2.2.2.2.2.2.2
        rw [hfe] at hR
        have hR2 : (if vv = at_ ∧ ks.length ≤ n then wayL es ds s n k1 u (ed :: ks) else none) = R := hR
        obtain ⟨k, hat, hek⟩ := atG_some es 0 hfe
        rw [Nat.zero_add] at hat
        rw [hat] at HAT
        have hkm : k < m := by
          have := (List.getElem?_eq_some_iff.1 hek).1
          have := HE.out.2.2.1
          omega
        have k0 : (0 : Int) ≤ (k : Int) := by omega
        have k1' : (k : Int) < (m : Int) := by omega
        have k2' : ¬ (k : Int) < 0 := by omega
        have HX := Lib.hid (And.intro hek hfe)
        clear hR hat hek hfe hkm
        go_wp2_with fail
        refine HAT.out.mono ?_
        clear HAT
        rintro en w4 ⟨rfl, hb4⟩
        have HG4 := Lib.hid (And.intro (HGd.out.1.below hb4) (And.intro (HGd.out.2.1.trans (hb4.mono HGd.out.2.1.size)) (own_below HGd.out.2.2 hb4)))
        clear hb4 q0 q1 q2 q3 HGd
        have q0 := HG4.out.1.x.cell 0 rfl
        have q1 := HG4.out.1.x.cell 1 rfl
        obtain ⟨be, hbe, ce_, cu_, cv_, cb_⟩ := (HE.out.1.below HG4.out.1.b) k e' u vv bb HX.out.1
        subst hbe
        by_cases hvv : vv = at_
        · have e2 : ((vv : Int) != at_) = false := by rw [hvv]; simp
          by_cases hqn : q ≤ n
          · have e3 : ¬ (q : Int) > (n : Int) := by omega
            rw [if_pos ⟨hvv, by rw [HJ.out.1]; exact hqn⟩] at hR2
            have hu : u ∈ sl := HBI.out.2.1 _ (List.mem_of_getElem? HX.out.1)
            have HN := Lib.hid (show (ed :: ks).length = q + 1 ∧ q + 1 + k1 = n + 2 ∧ q + 1 ≤ n + 1 ∧ u ∈ sl ∧ (∀ e ∈ ed :: ks, es.find? (fun p => decide (p.1 = e)) ≠ none) ∧ wayL es ds s n k1 u (ed :: ks) = R from by
              obtain ⟨hq, hk, hqn', -, -, -, hf, -⟩ := HJ.out
              refine ⟨by rw [List.length_cons, hq], by omega, by omega, hu, fun e he => ?_, hR2⟩
              rcases List.mem_cons.1 he with rfl | he
              · rw [HX.out.2]
                exact fun h => by cases h
              · exact hf e he)
            have HLIT := Lib.hid (show (w4.alloc (.cells #[.int .i64 ed] 3)).ownsRow w3.heap.size 3 1 (.slice (some ⟨w4.heap.size, 0, none⟩) 1 1) 1 [.int .i64 ed] from World.ownsRow_lit w4 #[.int .i64 ed] 1 HG4.out.2.1.size (by decide) (by simp))
            have HRV := Lib.hid ((rdV_ints HG4.out.2.2).below ((Below.refl w4.heap.size w4).alloc (Nat.le_refl _) (.cells #[.int .i64 ed] 3)))
            obtain ⟨xs, hxs⟩ : ∃ xs, ints ks = xs := ⟨_, rfl⟩
            rw [hxs] at HRV
            have HXS := Lib.hid hxs
            have q5 : q ≤ 401 := by omega
            clear hR2 hu hqn hvv HJ hxs
            go_upto_region 8 with (fail)
            go_wp2_with ((at_builtin; refine wpList_append_any rfl (.tmp 51) (.tmp 52) 22 rfl w3.heap.size 3 i1 (.int .i64 0) 1 8 Tryz.underlying22 hi1 hz1 hs1 hy1 rfl (by omega) _ _ _ rfl HLIT.out _ rfl q xs HRV.out (by unfold maxLen; omega) (by omega) (by have := HG4.out.2.1.size; simp; omega) ?_; intro v6 w6 ho hg hn; have hb6 : Below w4.heap.size w4 w6 := ((Below.refl w4.heap.size w4).alloc (Nat.le_refl _) (.cells #[.int .i64 ed] 3)).grown hg (by simp) (fun k hk => by cases hk; exact Nat.le_refl _); have HO6 := Lib.hid (And.intro ho hb6); clear ho hg hn; have q0 := keep_at hb6 q0; have q1 := keep_at hb6 q1; have cu_ := keep_at hb6 cu_; clear hb6))
            go_roundg k1
            case measure => omega
            case rel =>
              obtain ⟨h1, h2, h3, h4, h5, h6⟩ := HN.out
              refine ⟨u, ed :: ks, q + 1, rfl, Lib.hid ⟨h1, h2, h3, ?_, HG4.out.1.below HO6.out.2, HG4.out.2.1.trans (HO6.out.2.mono HG4.out.2.1.size), h4, h5, h6⟩⟩
              have := HO6.out.1
              rw [← HXS.out, Nat.add_comm 1 q] at this
              exact this
          · have e3 : (q : Int) > (n : Int) := by omega
            rw [if_neg (fun h => hqn (by rw [← HJ.out.1]; exact h.2))] at hR2
            have HQ := Lib.hid (show false = ans from by rw [← HANS.out.1, ← hR2])
            clear hR2 hqn hvv HJ
            go_wp2
            go_ret
            exact ⟨by rw [← HQ.out]; rfl, HG4.out.1.b⟩
        · have e2 : ((vv : Int) != at_) = true := by simpa using hvv
          rw [if_neg (fun h => hvv h.1)] at hR2
          have HQ := Lib.hid (show false = ans from by rw [← HANS.out.1, ← hR2])
          clear hR2 hvv HJ
          go_wp2
          go_ret
          exact ⟨by rw [← HQ.out]; rfl, HG4.out.1.b⟩
end Go.Proofs.YtgihncjllelonaaGreat.Ce

/- Plain: labels that say who reaches whom. -/
namespace Go.Proofs.YtgihncjllelonaaGreat.Ce
open Go Go.Proofs.YtgihncjllelonaaGreat.Tj Go.Proofs.YtgihncjllelonaaGreat.Sl Go.Proofs.YtgihncjllelonaaGreat.Lw
set_option linter.unusedVariables false

theorem perm_of_allI : ∀ (gs C : List Int), gs.Nodup → (∀ g ∈ gs, g ∈ C) → gs.length = C.length → gs.Perm C
  | [], C, _, _, h => by
    have : C = [] := List.length_eq_zero_iff.1 h.symm
    rw [this]
  | g :: gs, C, hn, hm, h => by
    rw [List.nodup_cons] at hn
    have hg := hm g List.mem_cons_self
    have hp := List.perm_cons_erase hg
    have hl := List.length_erase_of_mem hg
    have ih := perm_of_allI gs (C.erase g) hn.2 (fun x hx => (List.mem_erase_of_ne (fun e : x = g => hn.1 (by rw [← e]; exact hx))).2 (hm x (List.mem_cons_of_mem _ hx))) (by
      rw [hl, ← h]
      rfl)
    exact (ih.cons g).trans hp.symm
section
end
end Go.Proofs.YtgihncjllelonaaGreat.Ce
