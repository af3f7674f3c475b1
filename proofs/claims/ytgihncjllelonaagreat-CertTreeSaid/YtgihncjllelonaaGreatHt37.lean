/- brambleref15: Tree. -/
import Derived.Test.YtgihncjllelonaaGreatHt5
import Derived.Test.YtgihncjllelonaaGreatHt36
namespace Go.Proofs.YtgihncjllelonaaGreat.Ce
open Go Go.RowKit Go.MapKept Go.Proofs.YtgihncjllelonaaGreat.Mem Go.Proofs.YtgihncjllelonaaGreat.Sl Go.Proofs.YtgihncjllelonaaGreat.Lw Go.Proofs.YtgihncjllelonaaGreat.Wt Go.Proofs.YtgihncjllelonaaGreat.Tb Go.Proofs.YtgihncjllelonaaGreat.Scc Go.Proofs.YtgihncjllelonaaGreat.Tj Go.Proofs.YtgihncjllelonaaGreatW.PrintWords Go.Proofs.YtgihncjllelonaaGreatW.PrintLast
attribute [local go_sem ↓] Go.wp_at_zero Go.wp_at_succ
set_option linter.unusedSimpArgs false
set_option linter.unusedVariables false

theorem dsG_cases {v : Int} : ∀ (ls : List Ds) (j : Nat) (a : Int), dsG v ls j a = a ∨ dsG v ls j a = -1 ∨ ∃ (i : Nat) (y : Ds), dsG v ls j a = ((j + i : Nat) : Int) ∧ ls[i]? = some y ∧ y.1 = v
  | [], _, _ => .inl rfl
  | l :: r, j, a => by
    rw [dsG]
    by_cases hl : l.1 = v
    · rw [if_pos hl]
      split
      · exact .inr (.inl rfl)
      · rcases dsG_cases r (j + 1) j with h | h | ⟨i, y, h1, h2, h3⟩
        · exact .inr (.inr ⟨0, l, by rw [h, Nat.add_zero], rfl, hl⟩)
        · exact .inr (.inl h)
        · exact .inr (.inr ⟨i + 1, y, by rw [h1, show j + 1 + i = j + (i + 1) by omega], by simpa using h2, h3⟩)
    · rw [if_neg hl]
      rcases dsG_cases r (j + 1) a with h | h | ⟨i, y, h1, h2, h3⟩
      · exact .inl h
      · exact .inr (.inl h)
      · exact .inr (.inr ⟨i + 1, y, by rw [h1, show j + 1 + i = j + (i + 1) by omega], by simpa using h2, h3⟩)
theorem dsI_get {ls : List Ds} {v : Int} (h : 0 ≤ dsI ls v) : ∃ (i : Nat) (y : Ds), dsI ls v = (i : Int) ∧ ls[i]? = some y ∧ y.1 = v := by
  unfold dsI at h ⊢
  rcases dsG_cases ls 0 (-1) (v := v) with h1 | h1 | ⟨i, y, h1, h2, h3⟩
  · omega
  · omega
  · exact ⟨i, y, by rw [h1, Nat.zero_add], h2, h3⟩
def dV (ds : List Ds) (v : Int) : Ds := (ds[(dsI ds v).toNat]?).getD (0, false, 0, 0)
theorem dV_get {ls : List Ds} {v : Int} {i : Nat} {y : Ds} (h1 : dsI ls v = (i : Int)) (h2 : ls[i]? = some y) : dV ls v = y := by
  unfold dV
  rw [h1]
  simp [h2]
def badB (s : Int) (x : Ds) (dv : Nat) : Bool := if x.2.1 then decide (x.2.2.1 ≠ 0 ∨ x.2.2.2 ≠ 0) else decide (x.2.2.1 ≠ dv ∨ ¬ (x.2.2.2 = 0 ↔ x.1 = s))
def claimB (s : Int) (ds : List Ds) (p : Int × Nat) : Bool := decide (0 ≤ dsI ds p.1) && ((dV ds p.1).2.1 == decide (p.2 = FAR)) && !badB s (dV ds p.1) p.2
def wayOk (es : List Ed) (s : Int) (n : Nat) (ds : List Ds) (p : Int × Nat) : Bool := decide (p.2 = FAR) || wayB es ds s n p.1 p.2
def RefTree (vs : List Int) (es : List Ed) (s : Int) (ds : List Ds) (b : Bool) : Prop :=
  ((tcode (sorted vs) es s ≠ 0 ∨ ds.length ≠ vs.length) ∧ b = false) ∨ (tcode (sorted vs) es s = 0 ∧ ds.length = vs.length ∧ ∃ d : List Nat, d.length = (sorted vs).length ∧ SndD (sorted vs) (es.map adE) s d ∧ ClsD (sorted vs) (es.map adE) es.length d ∧ b = (((sorted vs).zip d).all (claimB s ds) && ((sorted vs).zip d).all (wayOk (es.map adE) s vs.length ds)))
theorem all_no {α : Type} {l : List α} {f : α → Bool} {x : α} (h : x ∈ l) (hf : f x = false) : l.all f = false := by
  rw [Bool.eq_false_iff]
  intro ha
  rw [List.all_eq_true.1 ha x h] at hf
  cases hf
def RdU (w : World) (A : Option Addr) (l : List Nat) : Prop := ∀ (j : Nat) (x : Nat), l[j]? = some x → ∃ b, A = some ⟨b, 0, none⟩ ∧ w.cell? ⟨b, j, none⟩ = some (.int .u32 (x : Int))
theorem RdU.below {w w' : World} {A : Option Addr} {l : List Nat} (h : RdU w A l) (hb : Below w.heap.size w w') : RdU w' A l := fun j x hx => by
  obtain ⟨b, h1, h2⟩ := h j x hx
  exact ⟨b, h1, keep_at hb h2⟩
theorem RdU.of_own {w : World} {base n c : Nat} {e : TypeId} {A : Option Addr} {l : List Nat} (h : w.ownsRow base e 1 (.slice A n c) n (u32s l)) : RdU w A l := fun j x hx => by
  have hn : n = l.length := by have := h.1; rw [u32s_length] at this; omega
  have hj : j < l.length := (List.getElem?_eq_some_iff.1 hx).1
  obtain ⟨g, cap, hv, _⟩ := h.form (by omega)
  cases hv
  refine ⟨g, rfl, ?_⟩
  rw [h.cellAt j (by omega)]
  exact u32s_at l hx
structure TrW (w : World) (g7 g5 : Nat) (A5 AE AD A8 : Option Addr) (n cg m ce nd cd c8 : Nat) (s : Int) (sl : List Int) (es : List Ed) (ds : List Ds) (d : List Nat) (W : World) : Prop where
  x : At W g7 [.slice A5 n cg, .slice AE m ce, .int .i64 0, .int .i64 0] 34
  t : At W g5 [.int .i64 s, .slice AD nd cd] 26
  v : RdI W A5 sl
  e : RdD W AE es
  q : RdS W AD ds
  u : RdU W A8 d
  b : Below w.heap.size w W
theorem TrW.below {w W W' : World} {g7 g5 : Nat} {A5 AE AD A8 : Option Addr} {n cg m ce nd cd c8 : Nat} {s : Int} {sl : List Int} {es : List Ed} {ds : List Ds} {d : List Nat} (h : TrW w g7 g5 A5 AE AD A8 n cg m ce nd cd c8 s sl es ds d W) (hb : Below W.heap.size W W') : TrW w g7 g5 A5 AE AD A8 n cg m ce nd cd c8 s sl es ds d W' :=
  ⟨h.x.below hb h.x.lt, h.t.below hb h.t.lt, h.v.below hb, h.e.below hb, h.q.below hb, h.u.below hb, h.b.trans (hb.mono h.b.size)⟩
def tb11_8.T8 : Bool × List (List Nat × List Nat) := (true, [([], []), ([0], [0]), ([], []), ([2], [2]), ([], []), ([3, 4], [3, 4]), ([5], [5]), ([1, 6], [1, 6]), ([7, 7, 0, 1, 2, 3, 4, 5, 6, 7], [7])])
def tb11_8.B8 : List Nat := [0, 1, 0, 4, 0, 28, 60, 127, 255]
theorem tb11_8.tab8 : rtab .any (opsOf Tryz.f11 8) = tb11_8.T8 := by kernel_rfl
theorem tb11_8.bits8 : waitsOk tb11_8.T8.2 tb11_8.B8 = true := by kernel_rfl
def tb11_12.T12 : Bool × List (List Nat × List Nat) := (true, [([], []), ([0], [0]), ([], []), ([], []), ([2, 3], [2, 3]), ([4], [4]), ([5], [5]), ([1, 6], [1, 6])])
def tb11_12.B12 : List Nat := [0, 1, 0, 0, 12, 28, 60, 127]
theorem tb11_12.tab12 : rtab .any (opsOf Tryz.f11 12) = tb11_12.T12 := by kernel_rfl
theorem tb11_12.bits12 : waitsOk tb11_12.T12.2 tb11_12.B12 = true := by kernel_rfl
def tb11_14.T14 : Bool × List (List Nat × List Nat) := (true, [([], []), ([0], [0]), ([1], [1]), ([2], [2]), ([3, 2], [2, 3]), ([4, 2], [2, 4]), ([5, 2, 2], [2, 5]), ([6], [6]), ([7, 6], [6, 7]), ([8, 6], [6, 8]), ([6, 9, 2], [2, 6, 9]), ([2, 10], [2, 10]), ([11, 6], [11]), ([12], [12]), ([13, 12], [12, 13]), ([14, 12], [12, 14]), ([15, 12, 12], [12, 15]), ([16], [16]), ([17, 16], [16, 17]), ([16], [16]), ([16], [16]), ([19, 20, 16], [16, 19, 20]), ([21, 16], [16, 21]), ([18, 22, 16], [16, 18, 22]), ([23, 16, 16], [16, 23]), ([24], [24]), ([25, 24], [24, 25]), ([26, 24], [24, 26]), ([24], [24]), ([28, 24], [24, 28]), ([24], [24]), ([30, 24], [24, 30]), ([29, 31, 24], [24, 29, 31]), ([27, 32, 24], [24, 27, 32]), ([24, 33, 16], [16, 24, 33]), ([16, 34, 12], [12, 16, 34]), ([12, 35], [12, 35])])
def tb11_14.B14 : List Nat := [0, 1, 3, 7, 15, 31, 63, 127, 255, 511, 1023, 2047, 4095, 8191, 16383, 32767, 65535, 131071, 262143, 131071, 131071, 1703935, 3801087, 8388607, 16777215, 33554431, 67108863, 134217727, 33554431, 301989887, 33554431, 1107296255, 4060086271, 8589934591, 17179869183, 34359738367, 68719476735]
theorem tb11_14.tab14 : rtab .any (opsOf Tryz.f11 14) = tb11_14.T14 := by kernel_rfl
theorem tb11_14.bits14 : waitsOk tb11_14.T14.2 tb11_14.B14 = true := by kernel_rfl
def tb11_19.T19 : Bool × List (List Nat × List Nat) := (true, [([], []), ([], []), ([0, 1], [0, 1]), ([2], [2]), ([3], [3]), ([4], [4]), ([5], [5]), ([5], [5]), ([5], [5]), ([8, 5], [5, 8]), ([5], [5]), ([9, 10, 5], [5, 9, 10]), ([11, 5], [5, 11]), ([5], [5]), ([5], [5]), ([13, 14, 5], [5, 13, 14]), ([15, 5], [5, 15]), ([6, 7, 12, 16, 5, 5], [5, 6, 7, 12, 16]), ([17, 5], [5, 17]), ([5, 18], [5, 18])])
def tb11_19.B19 : List Nat := [0, 0, 3, 7, 15, 31, 63, 63, 63, 319, 63, 1855, 3903, 63, 63, 24639, 57407, 131071, 262143, 524287]
theorem tb11_19.tab19 : rtab .any (opsOf Tryz.f11 19) = tb11_19.T19 := by kernel_rfl
theorem tb11_19.bits19 : waitsOk tb11_19.T19.2 tb11_19.B19 = true := by kernel_rfl
set_option maxHeartbeats 16000000 in
set_option maxRecDepth 100000 in
theorem reftree_calls (w : World) (Av Ae AD : Option Addr) (cv ce cd : Nat) (vs : List Int) (es : List Ed) (ds : List Ds) (s : Int) (hv : RdI w Av vs) (he : RdD w Ae es) (hd : RdS w AD ds) (hvl : vs.length ≤ 400) (hel : es.length ≤ 400) (hbit : ∀ p ∈ es, p.2.2.2 < 4294967296) :
    Calls Tryz.prog 11 #[.slice Av vs.length cv, .slice Ae es.length ce, .agg #[.int .i64 s, .slice AD ds.length cd]] w fun e w' => ∃ b : Bool, e = .returned (.bool b) ∧ Hid (RefTree vs es s ds b) ∧ Below w.heap.size w w' := by
  obtain ⟨n, hn⟩ : ∃ m, vs.length = m := ⟨_, rfl⟩
  obtain ⟨m, hm⟩ : ∃ m, es.length = m := ⟨_, rfl⟩
  obtain ⟨nd, hnd⟩ : ∃ m, ds.length = m := ⟨_, rfl⟩
  have HE := Lib.hid (And.intro hv (And.intro he (And.intro hd (And.intro hbit (And.intro hn (And.intro hm hnd))))))
  have HERR := Lib.hid (show ∀ W, Below w.heap.size w W → Calls Tryz.prog 32 #[.slice Av n cv, .slice Ae m ce, .int .i64 s] W fun e w' => e = .returned (.int .i64 ((tcode (sorted vs) es s : Nat) : Int)) ∧ Below W.heap.size W w' from fun W hW => by
    have := error13_calls W Av Ae cv ce vs es s (hv.below hW) (he.below hW) hvl hel hbit
    rw [hn, hm] at this
    exact this)
  rw [hn] at hvl ⊢
  rw [hm] at hel ⊢
  rw [hnd]
  clear hv he hd hbit hn hm hnd
  obtain ⟨tc, htc⟩ : ∃ tc, tcode (sorted vs) es s = tc := ⟨_, rfl⟩
  rw [htc] at HERR
  have HTC := Lib.hid htc
  clear htc
  have b0 : Below w.heap.size w (w.alloc (.cells #[.int .i64 s, .slice AD nd cd] 26)) := (Below.refl _ _).alloc (Nat.le_refl _) _
  have HB0 := Lib.hid b0
  clear b0
  by_cases htn : tc = 0 ∧ nd = n
  · obtain ⟨ht0, hnn⟩ := htn
    have ht1 : (tc : Int) = 0 := by omega
    have q1 : ((tc : Int) != 0) = false := by rw [ht0]; rfl
    have q2 : ((nd : Int) != (n : Int)) = false := by rw [hnn]; simp
    obtain ⟨zD, zE, z1, zU, zS, zA⟩ := tcode_zero (HTC.out.trans ht0)
    have hup : (sorted vs).Pairwise (· < ·) := lt_of_nodup (sorted_rising vs) zD
    have HGR := Lib.hid (show ∀ W, Below w.heap.size w W → Calls Tryz.prog 21 #[.slice Av n cv, .slice Ae m ce] W fun e w' => ∃ A5 cg AE ce, e = .returned (gV A5 n cg (.slice AE m ce)) ∧ RdI w' A5 (sorted vs) ∧ RdD w' AE (es.map adE) ∧ Below W.heap.size W w' from fun W hW => by
      have := graph13_calls W Av Ae cv ce vs es (HE.out.1.below hW) (HE.out.2.1.below hW) (by rw [HE.out.2.2.2.2.1]; exact hvl) (by rw [HE.out.2.2.2.2.2.1]; exact hel) HE.out.2.2.2.1
      rw [HE.out.2.2.2.2.1, HE.out.2.2.2.2.2.1] at this
      exact this)
    have hes2 : ∀ p ∈ es.map adE, p.2.1 ∈ sorted vs ∧ p.2.2.1 ∈ sorted vs := fun p hp => by
      obtain ⟨x, hx, rfl⟩ := List.mem_map.1 hp
      exact zU x hx
    have hbi2 : ∀ p ∈ es.map adE, p.2.2.2 ≤ 2139095040 := fun p hp => by
      obtain ⟨x, hx, rfl⟩ := List.mem_map.1 hp
      have := zA x hx
      show admR x.2.2.2 ≤ _
      unfold admR admB
      rw [this, if_pos rfl]
      have h2 : x.2.2.2 = 2147483648 ∨ x.2.2.2 < 2139095040 := of_decide_eq_true this
      split <;> omega
    have hsl : (sorted vs).length = n := by rw [sorted_length]; exact HE.out.2.2.2.2.1
    have hml : (es.map adE).length = m := by rw [List.length_map]; exact HE.out.2.2.2.2.2.1
    have HQT := Lib.hid (show ∀ (b : Bool) (d : List Nat), d.length = n → SndD (sorted vs) (es.map adE) s d → ClsD (sorted vs) (es.map adE) m d → b = (((sorted vs).zip d).all (claimB s ds) && ((sorted vs).zip d).all (wayOk (es.map adE) s n ds)) → RefTree vs es s ds b from fun b d h1 h2 h3 h4 => .inr ⟨HTC.out.trans ht0, by rw [HE.out.2.2.2.2.1, HE.out.2.2.2.2.2.2]; exact hnn, d, by rw [hsl]; exact h1, h2, by rw [HE.out.2.2.2.2.2.1]; exact h3, by rw [HE.out.2.2.2.2.1]; exact h4⟩)
    obtain ⟨sl, hsle⟩ : ∃ sl, sorted vs = sl := ⟨_, rfl⟩
    obtain ⟨es2, hese⟩ : ∃ sl, es.map adE = sl := ⟨_, rfl⟩
    rw [hsle, hese] at HQT
    rw [hsle] at hup hsl zS
    rw [hsle, hese] at hes2
    rw [hese] at hbi2 hml
    rw [hsle, hese] at HGR
    have HP := Lib.hid (And.intro hup (And.intro hes2 (And.intro hbi2 (And.intro hsl (And.intro hml zS)))))
    clear hup hsl zS hes2 hbi2 hml hsle hese zD zE z1 zU zA ht0 HTC
    obtain rfl : nd = n := hnn
    go_enter Tryz.func11, Tryz.ntmps11
    go_wp2_with fail
    refine (HERR.out _ HB0.out).mono ?_
    clear HERR
    rintro e w1 ⟨rfl, hb1⟩
    have HB1 := Lib.hid (And.intro (HB0.out.trans (hb1.mono HB0.out.size)) (show At w1 w.heap.size [.int .i64 s, .slice AD nd cd] 26 from (At.made rfl rfl).below hb1 (by simp)))
    have t1 := HB1.out.2.cell 1 rfl
    clear hb1
    go_wp2_with fail
    refine (HGR.out w1 HB1.out.1).mono ?_
    clear HGR
    rintro e w2 ⟨A5, cg, AE, ceE, rfl, hri, hrd, hb2⟩
    obtain ⟨g5, hg5⟩ : ∃ g, w.heap.size = g := ⟨_, rfl⟩
    have HB2 := Lib.hid (And.intro (HB1.out.1.trans (hb2.mono HB1.out.1.size)) (And.intro (HB1.out.2.below hb2 HB1.out.2.lt) (And.intro hri hrd)))
    clear t1 hri hrd hb2 HB1 HB0
    unfold gV
    go_upto_region 4 with (fail)
    obtain ⟨g7, hg7⟩ : ∃ g, w2.heap.size = g := ⟨_, rfl⟩
    refine gen_world (fun W => Below w.heap.size w W ∧ At W g5 [.int .i64 s, .slice AD nd cd] 26 ∧ At W g7 [.slice A5 nd cg, .slice AE m ceE, .int .i64 0, .int .i64 0] 34 ∧ RdI W A5 sl ∧ RdD W AE es2) ?_ ?_
    · have hal := (Below.refl w2.heap.size w2).alloc (Nat.le_refl _) (.cells #[.slice A5 nd cg, .slice AE m ceE, .int .i64 0, .int .i64 0] 34)
      exact ⟨HB2.out.1.trans (hal.mono HB2.out.1.size), by rw [← hg5]; exact HB2.out.2.1.below hal HB2.out.2.1.lt, At.made hg7 rfl, HB2.out.2.2.1.below hal, HB2.out.2.2.2.below hal⟩
    rw [hg7]
    clear hg7
    rintro w3 ⟨hb3, ht3, hx3, hri, hrd⟩
    have HDS := Lib.hid (show Calls Tryz.prog 33 #[.agg #[.slice A5 nd cg, .slice AE m ceE, .int .i64 0, .int .i64 0], .int .i64 s] w3 fun e w' => ∃ v d, e = .returned v ∧ One w3 72 1 v nd (u32s d) w' ∧ Hid (d.length = nd ∧ SndD sl es2 s d ∧ ClsD sl es2 m d) from by
      obtain ⟨h1, h2, h3, h4, h5, h6⟩ := HP.out
      have := dists13_calls (gw := 0) w3 A5 AE cg ceE sl es2 s hri hrd h1 h2 h3 h6 (by omega) (by omega)
      rw [h4, h5] at this
      exact this)
    have q0 := hx3.cell 0 rfl
    have q1' := hx3.cell 1 rfl
    have q2' := hx3.cell 2 rfl
    have q3 := hx3.cell 3 rfl
    have t0 := ht3.cell 0 rfl
    have H3 := Lib.hid (And.intro hb3 (And.intro ht3 (And.intro hx3 (And.intro hri hrd))))
    clear hb3 ht3 hx3 hri hrd HB2
    go_wp2_with fail
    refine HDS.out.mono ?_
    clear HDS
    rintro e w4 ⟨v8, d, rfl, hO, hD⟩
    obtain ⟨A8, c8, rfl⟩ := Lw.own_slice hO.r
    have HT4 := Lib.hid (show TrW w g7 g5 A5 AE AD A8 nd cg m ceE nd cd c8 s sl es2 ds d w4 from
      ⟨H3.out.2.2.1.below hO.b H3.out.2.2.1.lt, H3.out.2.1.below hO.b H3.out.2.1.lt, H3.out.2.2.2.1.below hO.b, H3.out.2.2.2.2.below hO.b, (HE.out.2.2.1.below H3.out.1).below hO.b, RdU.of_own hO.r, H3.out.1.trans (hO.b.mono H3.out.1.size)⟩)
    have HD := Lib.hid hD.out
    have HZ := Lib.hid (show ∀ (i : Nat) (v : Int) (dv : Nat), sl[i]? = some v → d[i]? = some dv → (sl.zip d)[i]? = some (v, dv) from fun i v dv h1 h2 => by
      rw [List.getElem?_zip_eq_some]
      exact ⟨h1, h2⟩)
    have HFA := Lib.hid (show ∀ p ∈ sl.zip d, claimB s ds p = false ∨ wayOk es2 s nd ds p = false → RefTree vs es s ds false from fun p hp hf => HQT.out false d HD.out.1 HD.out.2.1 HD.out.2.2 (by
      rcases hf with hf | hf
      · rw [all_no hp hf]
        rfl
      · rw [all_no hp hf, Bool.and_false]))
    clear hO hD H3 q0 q1' q2' q3 t0 q1 q2 ht1
    have j5 : (nd : Int) ≤ 400 := by omega
    go_wp2_with fail
    go_loopg [9] nd (fun kq v9 w' => ∃ i : Nat, v9 = .int .i64 (i : Int) ∧ Hid (i + kq = nd ∧ TrW w g7 g5 A5 AE AD A8 nd cg m ceE nd cd c8 s sl es2 ds d w' ∧ ∀ p ∈ (sl.zip d).take i, claimB s ds p = true))
    case atStart => exact ⟨0, rfl, Lib.hid ⟨by omega, HT4.out, fun p hp => by simp at hp⟩⟩
    case round =>
      clear HT4
      obtain ⟨i, rfl, hI⟩ := hrel
      obtain ⟨hik, hT, hall⟩ := hI.out
      clear hI
      have q0 := hT.x.cell 0 rfl
      by_cases hi : i < nd
      · obtain ⟨k1, rfl⟩ : ∃ k1, gk = k1 + 1 := ⟨gk - 1, by omega⟩
        obtain ⟨v, hx⟩ : ∃ x, sl[i]? = some x := ⟨_, List.getElem?_eq_getElem (by have := HP.out.2.2.2.1; omega)⟩
        obtain ⟨dv, hdx⟩ : ∃ x, d[i]? = some x := ⟨_, List.getElem?_eq_getElem (by have := HD.out.1; omega)⟩
        have hzx := HZ.out i v dv hx hdx
        obtain ⟨ga, hga, cv0⟩ := hT.v i v hx
        subst hga
        have i0 : (0 : Int) ≤ (i : Int) := by omega
        have i1 : (i : Int) < (nd : Int) := by omega
        have HJ := Lib.hid (And.intro hik (And.intro hT (And.intro hall (And.intro hx (And.intro hdx hzx)))))
        clear hik hT hall hx hdx hzx hi cv0
        go_upto_region 8 with (fail)
        clear q0
        obtain ⟨wd, hwd⟩ : ∃ wd, wr.drew = wd := ⟨_, rfl⟩
        have hTd : TrW w g7 g5 (some ⟨ga, 0, none⟩) AE AD A8 nd cg m ceE nd cd c8 s sl es2 ds d wd := by rw [← hwd]; exact HJ.out.2.1.below (Below.refl _ _).drew
        have q0 := hTd.x.cell 0 rfl
        have t1 := hTd.t.cell 1 rfl
        obtain ⟨ga', hga, cv⟩ := hTd.v i v HJ.out.2.2.2.1
        cases hga
        obtain ⟨di, hdi⟩ : ∃ di, dsI ds v = di := ⟨_, rfl⟩
        have HDI := Lib.hid (show ∀ W, Below wd.heap.size wd W → Calls Tryz.prog 34 #[.slice AD nd cd, .int .i64 v] W fun e w' => e = .returned (.int .i64 di) ∧ w' = W from fun W hW => by
          have := dist15_calls W AD cd ds v (hTd.q.below hW) (by rw [HE.out.2.2.2.2.2.2]; exact hvl)
          rw [HE.out.2.2.2.2.2.2, hdi] at this
          exact this)
        have HTd := Lib.hid (And.intro hTd hdi)
        clear hTd hdi
        refine start_ (n := 9) (S := fun w' => w'.cell? ⟨g5, 1, none⟩ = some (.slice AD nd cd) ∧ w'.cell? ⟨g7, 0, none⟩ = some (.slice (some ⟨ga, 0, none⟩) nd cg) ∧ w'.cell? ⟨ga, i, none⟩ = some (.int .i64 v)) (ds := []) (bA 9 0) (by kernel_rfl) rfl rfl ⟨(by rw [hwd]; exact t1), (by rw [hwd]; exact q0), (by rw [hwd]; exact cv)⟩ (fun hHeld => ?_)
        rw [hwd] at hHeld ⊢
        refine with_tabW tb11_8.tab8 tb11_8.bits8 (fun HT_ HW_ => ?_)
        refine pw_ 0 41 (bA 9 1) HT_.out ?_
        refine pw_ 2 43 (bA 9 5) HT_.out ?_
        refine pw_ 4 45 (bA 9 21) HT_.out ?_
        refine tw_ 1 42 (bA 9 23) HT_.out HW_.out hHeld (hv := by rintro w' ⟨s0, s1, s2⟩; go_simp; with_reducible rfl) (h := ?_)
        refine tw_ 3 44 (bA 9 31) HT_.out HW_.out hHeld (hv := by rintro w' ⟨s0, s1, s2⟩; go_simp; with_reducible rfl) (h := ?_)
        refine pw_ 5 46 (bA 9 63) HT_.out ?_
        refine tw_ 6 47 (bA 9 127) HT_.out HW_.out hHeld (hv := by rintro w' ⟨s0, s1, s2⟩; go_simp; with_reducible rfl) (h := ?_)
        refine one_ (i := 7) (N := some 48) (bA 9 255) rfl rfl (one_of HT_.out (by kernel_rfl)) (by decide) (fun K hK => ?_)
        refine gw_ Tryz.func34 #[.slice AD nd cd, .int .i64 v] ?_
        with_reducible refine ((HDI.out wd (Below.refl _ _))).mono ?_
        rintro en wa ⟨rfl, rfl⟩
        refine ⟨_, rfl, ?_⟩
        refine hK.out _ _ ⟨t1, q0, cv⟩ (fun hHeld => ?_)
        clear hK K
        refine norm_ (a' := ?_) ?_ ?_
        rotate_left
        · show Act.put _ (some 48) _ = _
          simp only [Act.put, pA, pB, pC, pD, pE]; rfl
        refine pw_ 8 10 (bA 9 511) HT_.out ?_
        refine done_ (done_of HT_.out (by kernel_rfl)) ?_
        clear hHeld HT_ HW_; clear q0 t1 cv HDI hwd
        by_cases hneg : di < 0
        · have HQ := Lib.hid (HFA.out _ (List.mem_of_getElem? HJ.out.2.2.2.2.2) (.inl (by
            unfold claimB
            rw [HTd.out.2, decide_eq_false (by omega)]
            rfl)))
          go_wp2
          go_ret
          exact ⟨false, rfl, HQ, HTd.out.1.b⟩
        · obtain ⟨k, ⟨v', f, b, ed⟩, hk1, hk2, hk3⟩ := dsI_get (ls := ds) (v := v) (by rw [HTd.out.2]; omega)
          have hk3' : v' = v := hk3
          subst hk3'
          have hdV := dV_get hk1 hk2
          have hdk : di = (k : Int) := HTd.out.2.symm.trans hk1
          subst hdk
          have hkn : k < nd := by
            have := (List.getElem?_eq_some_iff.1 hk2).1
            have := HE.out.2.2.2.2.2.2
            omega
          have k0 : (0 : Int) ≤ (k : Int) := by omega
          have k1' : (k : Int) < (nd : Int) := by omega
          have hcb : claimB s ds (v', dv) = ((f == decide (dv = FAR)) && !badB s (v', f, b, ed) dv) := by
            unfold claimB
            rw [HTd.out.2, hdV, decide_eq_true (by omega)]
            rfl
          obtain ⟨gd, off, hAD, x0, x1, x2, x3⟩ := HTd.out.1.q k v' f b ed hk2
          subst hAD
          have t1 := HTd.out.1.t.cell 1 rfl
          have HCB := Lib.hid hcb
          clear hcb hdV hk1 hk2 hk3 hkn
          go_upto_region 12 with (fail)
          clear x0 x1 x2 x3 t1
          obtain ⟨gq, hgq⟩ : ∃ g, wa.heap.size = g := ⟨_, rfl⟩
          refine gen_world (fun W => At W gq [.int .i64 v', .bool f, .int .u32 (b : Int), .int .i64 ed] 78 ∧ TrW w g7 g5 (some ⟨ga, 0, none⟩) AE (some ⟨gd, off, none⟩) A8 nd cg m ceE nd cd c8 s sl es2 ds d W) ?_ ?_
          · exact ⟨At.made hgq rfl, HTd.out.1.below ((Below.refl wa.heap.size wa).alloc (Nat.le_refl _) (.cells #[.int .i64 v', .bool f, .int .u32 (b : Int), .int .i64 ed] 78))⟩
          rw [hgq]
          clear hgq
          rintro w7 ⟨ha7, hT7⟩
          obtain ⟨wd, hwd⟩ : ∃ wd, w7.drew = wd := ⟨_, rfl⟩
          have HT7 := Lib.hid (show At wd gq [.int .i64 v', .bool f, .int .u32 (b : Int), .int .i64 ed] 78 ∧ TrW w g7 g5 (some ⟨ga, 0, none⟩) AE (some ⟨gd, off, none⟩) A8 nd cg m ceE nd cd c8 s sl es2 ds d wd from by
            rw [← hwd]
            exact ⟨ha7.drew, hT7.below (Below.refl _ _).drew⟩)
          clear ha7 hT7 HTd
          have c1 := HT7.out.1.cell 1 rfl
          obtain ⟨gu, hgu, cu⟩ := HT7.out.2.u i dv HJ.out.2.2.2.2.1
          subst hgu
          have hmem := List.mem_of_getElem? HJ.out.2.2.2.2.2
          by_cases hff : f = decide (dv = FAR)
          · have HCB2 := Lib.hid (show claimB s ds (v', dv) = !badB s (v', f, b, ed) dv from by
              rw [HCB.out, hff]
              simp)
            have HST := Lib.hid (show badB s (v', f, b, ed) dv = true → RefTree vs es s ds false from fun h => HFA.out _ hmem (.inl (by rw [HCB2.out, h]; rfl)))
            obtain ⟨bad, hbad⟩ : ∃ x, badB s (v', f, b, ed) dv = x := ⟨_, rfl⟩
            rw [hbad] at HCB2 HST
            have HBAD := Lib.hid hbad
            clear hbad HCB hmem
            have HFF := Lib.hid hff
            have q1 : (f == ((dv : Int) == 4294967295)) = true := by
              rw [hff]
              by_cases hd : dv = FAR
              · rw [decide_eq_true hd, hd]
                rfl
              · rw [decide_eq_false hd, show ((dv : Int) == 4294967295) = false from beq_eq_false_iff_ne.2 (by unfold FAR at hd; omega)]
                rfl
            clear hff
            refine start_ (n := 8) (S := fun w' => w'.cell? ⟨gq, 1, none⟩ = some (.bool f) ∧ w'.cell? ⟨gu, i, none⟩ = some (.int .u32 (dv : Int))) (ds := []) (bA 8 0) (by kernel_rfl) rfl rfl ⟨(by rw [hwd]; exact c1), (by rw [hwd]; exact cu)⟩ (fun hHeld => ?_)
            rw [hwd] at hHeld ⊢
            refine with_tabW tb11_12.tab12 tb11_12.bits12 (fun HT_ HW_ => ?_)
            refine pw_ 0 56 (bA 8 1) HT_.out ?_
            refine pw_ 2 58 (bA 8 5) HT_.out ?_
            refine pw_ 3 59 (bA 8 13) HT_.out ?_
            refine pw_ 4 60 (bA 8 29) HT_.out ?_
            refine tw_ 1 57 (bA 8 31) HT_.out HW_.out hHeld (hv := by rintro w' ⟨s0, s1⟩; go_simp; with_reducible rfl) (h := ?_)
            refine tw_ 5 61 (bA 8 63) HT_.out HW_.out hHeld (hv := by rintro w' ⟨s0, s1⟩; go_simp; with_reducible rfl) (h := ?_)
            refine pw_ 6 62 (bA 8 127) HT_.out ?_
            refine pw_ 7 63 (bA 8 255) HT_.out ?_
            refine done_ (done_of HT_.out (by kernel_rfl)) ?_
            clear hHeld HT_ HW_; clear c1 cu hwd
            obtain ⟨w8, hw8⟩ : ∃ w8, wd = w8 := ⟨_, rfl⟩
            rw [hw8] at HT7 ⊢
            clear hw8
            go_upto_region 14 with (fail)
            obtain ⟨wd, hwd⟩ : ∃ wd, w8.drew = wd := ⟨_, rfl⟩
            have HT8 := Lib.hid (show At wd gq [.int .i64 v', .bool f, .int .u32 (b : Int), .int .i64 ed] 78 ∧ TrW w g7 g5 (some ⟨ga, 0, none⟩) AE (some ⟨gd, off, none⟩) (some ⟨gu, 0, none⟩) nd cg m ceE nd cd c8 s sl es2 ds d wd from by
              rw [← hwd]
              exact ⟨HT7.out.1.drew, HT7.out.2.below (Below.refl _ _).drew⟩)
            clear HT7
            have c0 := HT8.out.1.cell 0 rfl
            have c1 := HT8.out.1.cell 1 rfl
            have c2 := HT8.out.1.cell 2 rfl
            have c3 := HT8.out.1.cell 3 rfl
            have t0 := HT8.out.2.t.cell 0 rfl
            obtain ⟨gu', hgu, cu⟩ := HT8.out.2.u i dv HJ.out.2.2.2.2.1
            cases hgu
            go_cut [100] from 64 to 99 (fun s100 wx => s100 = .bool bad ∧ wx = wd)
            case first =>
              have hb := HBAD.out
              have hff := HFF.out
              clear HBAD HFF HCB2 HST q1
              unfold badB at hb
              cases f with
              | true =>
                simp only [if_pos] at hb
                clear hff
                by_cases hb0 : b = 0
                · have e1 : ((b : Int) != 0) = false := by rw [hb0]; rfl
                  by_cases he0 : ed = 0
                  · have e2 : ((ed : Int) != 0) = false := by rw [he0]; rfl
                    have : bad = false := by
                      rw [← hb]
                      exact decide_eq_false (by omega)
                    subst this
                    clear hb hb0 he0
                    refine start_ (n := 37) (S := fun w' => w'.cell? ⟨gq, 0, none⟩ = some (.int .i64 v') ∧ w'.cell? ⟨gq, 1, none⟩ = some (.bool true) ∧ w'.cell? ⟨gq, 2, none⟩ = some (.int .u32 (b : Int)) ∧ w'.cell? ⟨gq, 3, none⟩ = some (.int .i64 ed) ∧ w'.cell? ⟨gu, i, none⟩ = some (.int .u32 (dv : Int)) ∧ w'.cell? ⟨g5, 0, none⟩ = some (.int .i64 s)) (ds := []) (bA 37 0) (by kernel_rfl) rfl rfl ⟨(by rw [hwd]; exact c0), (by rw [hwd]; exact c1), (by rw [hwd]; exact c2), (by rw [hwd]; exact c3), (by rw [hwd]; exact cu), (by rw [hwd]; exact t0)⟩ (fun hHeld => ?_)
                    rw [hwd] at hHeld ⊢
                    refine with_tabW tb11_14.tab14 tb11_14.bits14 (fun HT_ HW_ => ?_)
                    refine pw_ 0 64 (bA 37 1) HT_.out ?_
                    refine tw_ 1 65 (bA 37 3) HT_.out HW_.out hHeld (hv := by rintro w' ⟨s0, s1, s2, s3, s4, s5⟩; go_simp; with_reducible rfl) (h := ?_)
                    refine pw_ 2 66 (bA 37 7) HT_.out ?_
                    refine pw_ 3 67 (bA 37 15) HT_.out ?_
                    refine tw_ 4 68 (bA 37 31) HT_.out HW_.out hHeld (hv := by rintro w' ⟨s0, s1, s2, s3, s4, s5⟩; go_simp; with_reducible rfl) (h := ?_)
                    refine pw_ 5 69 (bA 37 63) HT_.out ?_
                    refine pw_ 6 70 (bA 37 127) HT_.out ?_
                    refine pw_ 7 71 (bA 37 255) HT_.out ?_
                    refine tw_ 8 72 (bA 37 511) HT_.out HW_.out hHeld (hv := by rintro w' ⟨s0, s1, s2, s3, s4, s5⟩; go_simp; with_reducible rfl) (h := ?_)
                    refine pw_ 9 73 (bA 37 1023) HT_.out ?_
                    refine pw_ 10 74 (bA 37 2047) HT_.out ?_
                    refine pw_ 11 75 (bA 37 4095) HT_.out ?_
                    refine pw_ 12 76 (bA 37 8191) HT_.out ?_
                    refine pw_ 13 77 (bA 37 16383) HT_.out ?_
                    refine tw_ 14 78 (bA 37 32767) HT_.out HW_.out hHeld (hv := by rintro w' ⟨s0, s1, s2, s3, s4, s5⟩; go_simp; with_reducible rfl) (h := ?_)
                    refine pw_ 15 79 (bA 37 65535) HT_.out ?_
                    refine pw_ 16 80 (bA 37 131071) HT_.out ?_
                    refine pu_ 17 81 (bA 37 262143) HT_.out ?_
                    refine pu_ 18 82 (bA 37 524287) HT_.out ?_
                    refine pu_ 19 83 (bA 37 1048575) HT_.out ?_
                    refine pu_ 20 84 (bA 37 2097151) HT_.out ?_
                    refine pu_ 21 85 (bA 37 4194303) HT_.out ?_
                    refine pu_ 22 86 (bA 37 8388607) HT_.out ?_
                    refine pu_ 23 87 (bA 37 16777215) HT_.out ?_
                    refine pu_ 24 88 (bA 37 33554431) HT_.out ?_
                    refine pu_ 25 89 (bA 37 67108863) HT_.out ?_
                    refine pu_ 26 90 (bA 37 134217727) HT_.out ?_
                    refine pu_ 27 91 (bA 37 268435455) HT_.out ?_
                    refine pu_ 28 92 (bA 37 536870911) HT_.out ?_
                    refine pu_ 29 93 (bA 37 1073741823) HT_.out ?_
                    refine pu_ 30 94 (bA 37 2147483647) HT_.out ?_
                    refine pu_ 31 95 (bA 37 4294967295) HT_.out ?_
                    refine pu_ 32 96 (bA 37 8589934591) HT_.out ?_
                    refine pu_ 33 97 (bA 37 17179869183) HT_.out ?_
                    refine pu_ 34 98 (bA 37 34359738367) HT_.out ?_
                    refine pw_ 35 99 (bA 37 68719476735) HT_.out ?_
                    refine pw_ 36 100 (bA 37 137438953471) HT_.out ?_
                    refine done_ (done_of HT_.out (by kernel_rfl)) ?_
                    clear hHeld HT_ HW_
                    go_wp2_with fail
                    go_meet
                    exact ⟨rfl, rfl⟩
                  · have e2 : ((ed : Int) != 0) = true := by simpa using he0
                    have : bad = true := by
                      rw [← hb]
                      exact decide_eq_true (.inr he0)
                    subst this
                    clear hb hb0 he0
                    refine start_ (n := 37) (S := fun w' => w'.cell? ⟨gq, 0, none⟩ = some (.int .i64 v') ∧ w'.cell? ⟨gq, 1, none⟩ = some (.bool true) ∧ w'.cell? ⟨gq, 2, none⟩ = some (.int .u32 (b : Int)) ∧ w'.cell? ⟨gq, 3, none⟩ = some (.int .i64 ed) ∧ w'.cell? ⟨gu, i, none⟩ = some (.int .u32 (dv : Int)) ∧ w'.cell? ⟨g5, 0, none⟩ = some (.int .i64 s)) (ds := []) (bA 37 0) (by kernel_rfl) rfl rfl ⟨(by rw [hwd]; exact c0), (by rw [hwd]; exact c1), (by rw [hwd]; exact c2), (by rw [hwd]; exact c3), (by rw [hwd]; exact cu), (by rw [hwd]; exact t0)⟩ (fun hHeld => ?_)
                    rw [hwd] at hHeld ⊢
                    refine with_tabW tb11_14.tab14 tb11_14.bits14 (fun HT_ HW_ => ?_)
                    refine pw_ 0 64 (bA 37 1) HT_.out ?_
                    refine tw_ 1 65 (bA 37 3) HT_.out HW_.out hHeld (hv := by rintro w' ⟨s0, s1, s2, s3, s4, s5⟩; go_simp; with_reducible rfl) (h := ?_)
                    refine pw_ 2 66 (bA 37 7) HT_.out ?_
                    refine pw_ 3 67 (bA 37 15) HT_.out ?_
                    refine tw_ 4 68 (bA 37 31) HT_.out HW_.out hHeld (hv := by rintro w' ⟨s0, s1, s2, s3, s4, s5⟩; go_simp; with_reducible rfl) (h := ?_)
                    refine pw_ 5 69 (bA 37 63) HT_.out ?_
                    refine pw_ 6 70 (bA 37 127) HT_.out ?_
                    refine pw_ 7 71 (bA 37 255) HT_.out ?_
                    refine tw_ 8 72 (bA 37 511) HT_.out HW_.out hHeld (hv := by rintro w' ⟨s0, s1, s2, s3, s4, s5⟩; go_simp; with_reducible rfl) (h := ?_)
                    refine pw_ 9 73 (bA 37 1023) HT_.out ?_
                    refine pw_ 10 74 (bA 37 2047) HT_.out ?_
                    refine pw_ 11 75 (bA 37 4095) HT_.out ?_
                    refine pw_ 12 76 (bA 37 8191) HT_.out ?_
                    refine pu_ 13 77 (bA 37 16383) HT_.out ?_
                    refine pu_ 14 78 (bA 37 32767) HT_.out ?_
                    refine pu_ 15 79 (bA 37 65535) HT_.out ?_
                    refine pu_ 16 80 (bA 37 131071) HT_.out ?_
                    refine pu_ 17 81 (bA 37 262143) HT_.out ?_
                    refine pu_ 18 82 (bA 37 524287) HT_.out ?_
                    refine pu_ 19 83 (bA 37 1048575) HT_.out ?_
                    refine pu_ 20 84 (bA 37 2097151) HT_.out ?_
                    refine pu_ 21 85 (bA 37 4194303) HT_.out ?_
                    refine pu_ 22 86 (bA 37 8388607) HT_.out ?_
                    refine pu_ 23 87 (bA 37 16777215) HT_.out ?_
                    refine pu_ 24 88 (bA 37 33554431) HT_.out ?_
                    refine pu_ 25 89 (bA 37 67108863) HT_.out ?_
                    refine pu_ 26 90 (bA 37 134217727) HT_.out ?_
                    refine pu_ 27 91 (bA 37 268435455) HT_.out ?_
                    refine pu_ 28 92 (bA 37 536870911) HT_.out ?_
                    refine pu_ 29 93 (bA 37 1073741823) HT_.out ?_
                    refine pu_ 30 94 (bA 37 2147483647) HT_.out ?_
                    refine pu_ 31 95 (bA 37 4294967295) HT_.out ?_
                    refine pu_ 32 96 (bA 37 8589934591) HT_.out ?_
                    refine pu_ 33 97 (bA 37 17179869183) HT_.out ?_
                    refine pu_ 34 98 (bA 37 34359738367) HT_.out ?_
                    refine pu_ 35 99 (bA 37 68719476735) HT_.out ?_
                    refine pw_ 36 100 (bA 37 137438953471) HT_.out ?_
                    refine done_ (done_of HT_.out (by kernel_rfl)) ?_
                    clear hHeld HT_ HW_
                    go_wp2_with fail
                    go_meet
                    exact ⟨rfl, rfl⟩
                · have e1 : ((b : Int) != 0) = true := by simpa using fun h : (b : Int) = 0 => hb0 (by omega)
                  have : bad = true := by
                    rw [← hb]
                    exact decide_eq_true (.inl hb0)
                  subst this
                  clear hb hb0
                  refine start_ (n := 37) (S := fun w' => w'.cell? ⟨gq, 0, none⟩ = some (.int .i64 v') ∧ w'.cell? ⟨gq, 1, none⟩ = some (.bool true) ∧ w'.cell? ⟨gq, 2, none⟩ = some (.int .u32 (b : Int)) ∧ w'.cell? ⟨gq, 3, none⟩ = some (.int .i64 ed) ∧ w'.cell? ⟨gu, i, none⟩ = some (.int .u32 (dv : Int)) ∧ w'.cell? ⟨g5, 0, none⟩ = some (.int .i64 s)) (ds := []) (bA 37 0) (by kernel_rfl) rfl rfl ⟨(by rw [hwd]; exact c0), (by rw [hwd]; exact c1), (by rw [hwd]; exact c2), (by rw [hwd]; exact c3), (by rw [hwd]; exact cu), (by rw [hwd]; exact t0)⟩ (fun hHeld => ?_)
                  rw [hwd] at hHeld ⊢
                  refine with_tabW tb11_14.tab14 tb11_14.bits14 (fun HT_ HW_ => ?_)
                  refine pw_ 0 64 (bA 37 1) HT_.out ?_
                  refine tw_ 1 65 (bA 37 3) HT_.out HW_.out hHeld (hv := by rintro w' ⟨s0, s1, s2, s3, s4, s5⟩; go_simp; with_reducible rfl) (h := ?_)
                  refine pw_ 2 66 (bA 37 7) HT_.out ?_
                  refine pw_ 3 67 (bA 37 15) HT_.out ?_
                  refine tw_ 4 68 (bA 37 31) HT_.out HW_.out hHeld (hv := by rintro w' ⟨s0, s1, s2, s3, s4, s5⟩; go_simp; with_reducible rfl) (h := ?_)
                  refine pw_ 5 69 (bA 37 63) HT_.out ?_
                  refine pw_ 6 70 (bA 37 127) HT_.out ?_
                  refine pu_ 7 71 (bA 37 255) HT_.out ?_
                  refine pu_ 8 72 (bA 37 511) HT_.out ?_
                  refine pu_ 9 73 (bA 37 1023) HT_.out ?_
                  refine pw_ 10 74 (bA 37 2047) HT_.out ?_
                  refine pw_ 11 75 (bA 37 4095) HT_.out ?_
                  refine pw_ 12 76 (bA 37 8191) HT_.out ?_
                  refine pu_ 13 77 (bA 37 16383) HT_.out ?_
                  refine pu_ 14 78 (bA 37 32767) HT_.out ?_
                  refine pu_ 15 79 (bA 37 65535) HT_.out ?_
                  refine pu_ 16 80 (bA 37 131071) HT_.out ?_
                  refine pu_ 17 81 (bA 37 262143) HT_.out ?_
                  refine pu_ 18 82 (bA 37 524287) HT_.out ?_
                  refine pu_ 19 83 (bA 37 1048575) HT_.out ?_
                  refine pu_ 20 84 (bA 37 2097151) HT_.out ?_
                  refine pu_ 21 85 (bA 37 4194303) HT_.out ?_
                  refine pu_ 22 86 (bA 37 8388607) HT_.out ?_
                  refine pu_ 23 87 (bA 37 16777215) HT_.out ?_
                  refine pu_ 24 88 (bA 37 33554431) HT_.out ?_
                  refine pu_ 25 89 (bA 37 67108863) HT_.out ?_
                  refine pu_ 26 90 (bA 37 134217727) HT_.out ?_
                  refine pu_ 27 91 (bA 37 268435455) HT_.out ?_
                  refine pu_ 28 92 (bA 37 536870911) HT_.out ?_
                  refine pu_ 29 93 (bA 37 1073741823) HT_.out ?_
                  refine pu_ 30 94 (bA 37 2147483647) HT_.out ?_
                  refine pu_ 31 95 (bA 37 4294967295) HT_.out ?_
                  refine pu_ 32 96 (bA 37 8589934591) HT_.out ?_
                  refine pu_ 33 97 (bA 37 17179869183) HT_.out ?_
                  refine pu_ 34 98 (bA 37 34359738367) HT_.out ?_
                  refine pu_ 35 99 (bA 37 68719476735) HT_.out ?_
                  refine pw_ 36 100 (bA 37 137438953471) HT_.out ?_
                  refine done_ (done_of HT_.out (by kernel_rfl)) ?_
                  clear hHeld HT_ HW_
                  go_wp2_with fail
                  go_meet
                  exact ⟨rfl, rfl⟩
              | false =>
                rw [if_neg (show ¬ (false = true) from by decide)] at hb
                clear hff
                by_cases hb0 : b = dv
                · have e1 : ((b : Int) != (dv : Int)) = false := by rw [hb0]; simp
                  by_cases he0 : ed = 0
                  · have e2 : ((ed : Int) == 0) = true := by rw [he0]; rfl
                    by_cases hvs : v' = s
                    · have e3 : ((v' : Int) == s) = true := by rw [hvs]; simp
                      have : bad = false := by
                        rw [← hb]
                        exact decide_eq_false (by simp [hb0, he0, hvs])
                      subst this
                      clear hb hb0 he0 hvs
                      refine start_ (n := 37) (S := fun w' => w'.cell? ⟨gq, 0, none⟩ = some (.int .i64 v') ∧ w'.cell? ⟨gq, 1, none⟩ = some (.bool false) ∧ w'.cell? ⟨gq, 2, none⟩ = some (.int .u32 (b : Int)) ∧ w'.cell? ⟨gq, 3, none⟩ = some (.int .i64 ed) ∧ w'.cell? ⟨gu, i, none⟩ = some (.int .u32 (dv : Int)) ∧ w'.cell? ⟨g5, 0, none⟩ = some (.int .i64 s)) (ds := []) (bA 37 0) (by kernel_rfl) rfl rfl ⟨(by rw [hwd]; exact c0), (by rw [hwd]; exact c1), (by rw [hwd]; exact c2), (by rw [hwd]; exact c3), (by rw [hwd]; exact cu), (by rw [hwd]; exact t0)⟩ (fun hHeld => ?_)
                      rw [hwd] at hHeld ⊢
                      refine with_tabW tb11_14.tab14 tb11_14.bits14 (fun HT_ HW_ => ?_)
                      refine pw_ 0 64 (bA 37 1) HT_.out ?_
                      refine tw_ 1 65 (bA 37 3) HT_.out HW_.out hHeld (hv := by rintro w' ⟨s0, s1, s2, s3, s4, s5⟩; go_simp; with_reducible rfl) (h := ?_)
                      refine pw_ 2 66 (bA 37 7) HT_.out ?_
                      refine pu_ 3 67 (bA 37 15) HT_.out ?_
                      refine pu_ 4 68 (bA 37 31) HT_.out ?_
                      refine pu_ 5 69 (bA 37 63) HT_.out ?_
                      refine pu_ 6 70 (bA 37 127) HT_.out ?_
                      refine pu_ 7 71 (bA 37 255) HT_.out ?_
                      refine pu_ 8 72 (bA 37 511) HT_.out ?_
                      refine pu_ 9 73 (bA 37 1023) HT_.out ?_
                      refine pu_ 10 74 (bA 37 2047) HT_.out ?_
                      refine pw_ 11 75 (bA 37 4095) HT_.out ?_
                      refine pw_ 12 76 (bA 37 8191) HT_.out ?_
                      refine pw_ 13 77 (bA 37 16383) HT_.out ?_
                      refine tw_ 14 78 (bA 37 32767) HT_.out HW_.out hHeld (hv := by rintro w' ⟨s0, s1, s2, s3, s4, s5⟩; go_simp; with_reducible rfl) (h := ?_)
                      refine pw_ 15 79 (bA 37 65535) HT_.out ?_
                      refine pw_ 16 80 (bA 37 131071) HT_.out ?_
                      refine pw_ 17 81 (bA 37 262143) HT_.out ?_
                      refine pw_ 19 83 (bA 37 786431) HT_.out ?_
                      refine pw_ 20 84 (bA 37 1835007) HT_.out ?_
                      refine pw_ 21 85 (bA 37 3932159) HT_.out ?_
                      refine tw_ 18 82 (bA 37 4194303) HT_.out HW_.out hHeld (hv := by rintro w' ⟨s0, s1, s2, s3, s4, s5⟩; go_simp; with_reducible rfl) (h := ?_)
                      refine tw_ 22 86 (bA 37 8388607) HT_.out HW_.out hHeld (hv := by rintro w' ⟨s0, s1, s2, s3, s4, s5⟩; go_simp; with_reducible rfl) (h := ?_)
                      refine pw_ 23 87 (bA 37 16777215) HT_.out ?_
                      refine pw_ 24 88 (bA 37 33554431) HT_.out ?_
                      refine pw_ 25 89 (bA 37 67108863) HT_.out ?_
                      refine pw_ 28 92 (bA 37 335544319) HT_.out ?_
                      refine pw_ 30 94 (bA 37 1409286143) HT_.out ?_
                      refine tw_ 26 90 (bA 37 1476395007) HT_.out HW_.out hHeld (hv := by rintro w' ⟨s0, s1, s2, s3, s4, s5⟩; go_simp; with_reducible rfl) (h := ?_)
                      refine pw_ 27 91 (bA 37 1610612735) HT_.out ?_
                      refine tw_ 29 93 (bA 37 2147483647) HT_.out HW_.out hHeld (hv := by rintro w' ⟨s0, s1, s2, s3, s4, s5⟩; go_simp; with_reducible rfl) (h := ?_)
                      refine tw_ 31 95 (bA 37 4294967295) HT_.out HW_.out hHeld (hv := by rintro w' ⟨s0, s1, s2, s3, s4, s5⟩; go_simp; with_reducible rfl) (h := ?_)
                      refine pw_ 32 96 (bA 37 8589934591) HT_.out ?_
                      refine pw_ 33 97 (bA 37 17179869183) HT_.out ?_
                      refine pw_ 34 98 (bA 37 34359738367) HT_.out ?_
                      refine pw_ 35 99 (bA 37 68719476735) HT_.out ?_
                      refine pw_ 36 100 (bA 37 137438953471) HT_.out ?_
                      refine done_ (done_of HT_.out (by kernel_rfl)) ?_
                      clear hHeld HT_ HW_
                      go_wp2_with fail
                      go_meet
                      exact ⟨rfl, rfl⟩
                    · have e3 : ((v' : Int) == s) = false := beq_eq_false_iff_ne.2 hvs
                      have : bad = true := by
                        rw [← hb]
                        exact decide_eq_true (by simp [hb0, he0, hvs])
                      subst this
                      clear hb hb0 he0 hvs
                      refine start_ (n := 37) (S := fun w' => w'.cell? ⟨gq, 0, none⟩ = some (.int .i64 v') ∧ w'.cell? ⟨gq, 1, none⟩ = some (.bool false) ∧ w'.cell? ⟨gq, 2, none⟩ = some (.int .u32 (b : Int)) ∧ w'.cell? ⟨gq, 3, none⟩ = some (.int .i64 ed) ∧ w'.cell? ⟨gu, i, none⟩ = some (.int .u32 (dv : Int)) ∧ w'.cell? ⟨g5, 0, none⟩ = some (.int .i64 s)) (ds := []) (bA 37 0) (by kernel_rfl) rfl rfl ⟨(by rw [hwd]; exact c0), (by rw [hwd]; exact c1), (by rw [hwd]; exact c2), (by rw [hwd]; exact c3), (by rw [hwd]; exact cu), (by rw [hwd]; exact t0)⟩ (fun hHeld => ?_)
                      rw [hwd] at hHeld ⊢
                      refine with_tabW tb11_14.tab14 tb11_14.bits14 (fun HT_ HW_ => ?_)
                      refine pw_ 0 64 (bA 37 1) HT_.out ?_
                      refine tw_ 1 65 (bA 37 3) HT_.out HW_.out hHeld (hv := by rintro w' ⟨s0, s1, s2, s3, s4, s5⟩; go_simp; with_reducible rfl) (h := ?_)
                      refine pw_ 2 66 (bA 37 7) HT_.out ?_
                      refine pu_ 3 67 (bA 37 15) HT_.out ?_
                      refine pu_ 4 68 (bA 37 31) HT_.out ?_
                      refine pu_ 5 69 (bA 37 63) HT_.out ?_
                      refine pu_ 6 70 (bA 37 127) HT_.out ?_
                      refine pu_ 7 71 (bA 37 255) HT_.out ?_
                      refine pu_ 8 72 (bA 37 511) HT_.out ?_
                      refine pu_ 9 73 (bA 37 1023) HT_.out ?_
                      refine pu_ 10 74 (bA 37 2047) HT_.out ?_
                      refine pw_ 11 75 (bA 37 4095) HT_.out ?_
                      refine pw_ 12 76 (bA 37 8191) HT_.out ?_
                      refine pw_ 13 77 (bA 37 16383) HT_.out ?_
                      refine tw_ 14 78 (bA 37 32767) HT_.out HW_.out hHeld (hv := by rintro w' ⟨s0, s1, s2, s3, s4, s5⟩; go_simp; with_reducible rfl) (h := ?_)
                      refine pw_ 15 79 (bA 37 65535) HT_.out ?_
                      refine pw_ 16 80 (bA 37 131071) HT_.out ?_
                      refine pw_ 17 81 (bA 37 262143) HT_.out ?_
                      refine pw_ 19 83 (bA 37 786431) HT_.out ?_
                      refine pw_ 20 84 (bA 37 1835007) HT_.out ?_
                      refine pw_ 21 85 (bA 37 3932159) HT_.out ?_
                      refine tw_ 18 82 (bA 37 4194303) HT_.out HW_.out hHeld (hv := by rintro w' ⟨s0, s1, s2, s3, s4, s5⟩; go_simp; with_reducible rfl) (h := ?_)
                      refine tw_ 22 86 (bA 37 8388607) HT_.out HW_.out hHeld (hv := by rintro w' ⟨s0, s1, s2, s3, s4, s5⟩; go_simp; with_reducible rfl) (h := ?_)
                      refine pw_ 23 87 (bA 37 16777215) HT_.out ?_
                      refine pw_ 24 88 (bA 37 33554431) HT_.out ?_
                      refine pw_ 25 89 (bA 37 67108863) HT_.out ?_
                      refine pw_ 28 92 (bA 37 335544319) HT_.out ?_
                      refine pw_ 30 94 (bA 37 1409286143) HT_.out ?_
                      refine tw_ 26 90 (bA 37 1476395007) HT_.out HW_.out hHeld (hv := by rintro w' ⟨s0, s1, s2, s3, s4, s5⟩; go_simp; with_reducible rfl) (h := ?_)
                      refine pw_ 27 91 (bA 37 1610612735) HT_.out ?_
                      refine tw_ 29 93 (bA 37 2147483647) HT_.out HW_.out hHeld (hv := by rintro w' ⟨s0, s1, s2, s3, s4, s5⟩; go_simp; with_reducible rfl) (h := ?_)
                      refine tw_ 31 95 (bA 37 4294967295) HT_.out HW_.out hHeld (hv := by rintro w' ⟨s0, s1, s2, s3, s4, s5⟩; go_simp; with_reducible rfl) (h := ?_)
                      refine pw_ 32 96 (bA 37 8589934591) HT_.out ?_
                      refine pw_ 33 97 (bA 37 17179869183) HT_.out ?_
                      refine pw_ 34 98 (bA 37 34359738367) HT_.out ?_
                      refine pw_ 35 99 (bA 37 68719476735) HT_.out ?_
                      refine pw_ 36 100 (bA 37 137438953471) HT_.out ?_
                      refine done_ (done_of HT_.out (by kernel_rfl)) ?_
                      clear hHeld HT_ HW_
                      go_wp2_with fail
                      go_meet
                      exact ⟨rfl, rfl⟩
                  · have e2 : ((ed : Int) == 0) = false := beq_eq_false_iff_ne.2 he0
                    by_cases hvs : v' = s
                    · have e3 : ((v' : Int) == s) = true := by rw [hvs]; simp
                      have : bad = true := by
                        rw [← hb]
                        exact decide_eq_true (by simp [hb0, he0, hvs])
                      subst this
                      clear hb hb0 he0 hvs
                      refine start_ (n := 37) (S := fun w' => w'.cell? ⟨gq, 0, none⟩ = some (.int .i64 v') ∧ w'.cell? ⟨gq, 1, none⟩ = some (.bool false) ∧ w'.cell? ⟨gq, 2, none⟩ = some (.int .u32 (b : Int)) ∧ w'.cell? ⟨gq, 3, none⟩ = some (.int .i64 ed) ∧ w'.cell? ⟨gu, i, none⟩ = some (.int .u32 (dv : Int)) ∧ w'.cell? ⟨g5, 0, none⟩ = some (.int .i64 s)) (ds := []) (bA 37 0) (by kernel_rfl) rfl rfl ⟨(by rw [hwd]; exact c0), (by rw [hwd]; exact c1), (by rw [hwd]; exact c2), (by rw [hwd]; exact c3), (by rw [hwd]; exact cu), (by rw [hwd]; exact t0)⟩ (fun hHeld => ?_)
                      rw [hwd] at hHeld ⊢
                      refine with_tabW tb11_14.tab14 tb11_14.bits14 (fun HT_ HW_ => ?_)
                      refine pw_ 0 64 (bA 37 1) HT_.out ?_
                      refine tw_ 1 65 (bA 37 3) HT_.out HW_.out hHeld (hv := by rintro w' ⟨s0, s1, s2, s3, s4, s5⟩; go_simp; with_reducible rfl) (h := ?_)
                      refine pw_ 2 66 (bA 37 7) HT_.out ?_
                      refine pu_ 3 67 (bA 37 15) HT_.out ?_
                      refine pu_ 4 68 (bA 37 31) HT_.out ?_
                      refine pu_ 5 69 (bA 37 63) HT_.out ?_
                      refine pu_ 6 70 (bA 37 127) HT_.out ?_
                      refine pu_ 7 71 (bA 37 255) HT_.out ?_
                      refine pu_ 8 72 (bA 37 511) HT_.out ?_
                      refine pu_ 9 73 (bA 37 1023) HT_.out ?_
                      refine pu_ 10 74 (bA 37 2047) HT_.out ?_
                      refine pw_ 11 75 (bA 37 4095) HT_.out ?_
                      refine pw_ 12 76 (bA 37 8191) HT_.out ?_
                      refine pw_ 13 77 (bA 37 16383) HT_.out ?_
                      refine tw_ 14 78 (bA 37 32767) HT_.out HW_.out hHeld (hv := by rintro w' ⟨s0, s1, s2, s3, s4, s5⟩; go_simp; with_reducible rfl) (h := ?_)
                      refine pw_ 15 79 (bA 37 65535) HT_.out ?_
                      refine pw_ 16 80 (bA 37 131071) HT_.out ?_
                      refine pw_ 17 81 (bA 37 262143) HT_.out ?_
                      refine pw_ 19 83 (bA 37 786431) HT_.out ?_
                      refine pw_ 20 84 (bA 37 1835007) HT_.out ?_
                      refine pw_ 21 85 (bA 37 3932159) HT_.out ?_
                      refine tw_ 18 82 (bA 37 4194303) HT_.out HW_.out hHeld (hv := by rintro w' ⟨s0, s1, s2, s3, s4, s5⟩; go_simp; with_reducible rfl) (h := ?_)
                      refine tw_ 22 86 (bA 37 8388607) HT_.out HW_.out hHeld (hv := by rintro w' ⟨s0, s1, s2, s3, s4, s5⟩; go_simp; with_reducible rfl) (h := ?_)
                      refine pw_ 23 87 (bA 37 16777215) HT_.out ?_
                      refine pw_ 24 88 (bA 37 33554431) HT_.out ?_
                      refine pw_ 25 89 (bA 37 67108863) HT_.out ?_
                      refine pw_ 28 92 (bA 37 335544319) HT_.out ?_
                      refine pw_ 30 94 (bA 37 1409286143) HT_.out ?_
                      refine tw_ 26 90 (bA 37 1476395007) HT_.out HW_.out hHeld (hv := by rintro w' ⟨s0, s1, s2, s3, s4, s5⟩; go_simp; with_reducible rfl) (h := ?_)
                      refine pw_ 27 91 (bA 37 1610612735) HT_.out ?_
                      refine tw_ 29 93 (bA 37 2147483647) HT_.out HW_.out hHeld (hv := by rintro w' ⟨s0, s1, s2, s3, s4, s5⟩; go_simp; with_reducible rfl) (h := ?_)
                      refine tw_ 31 95 (bA 37 4294967295) HT_.out HW_.out hHeld (hv := by rintro w' ⟨s0, s1, s2, s3, s4, s5⟩; go_simp; with_reducible rfl) (h := ?_)
                      refine pw_ 32 96 (bA 37 8589934591) HT_.out ?_
                      refine pw_ 33 97 (bA 37 17179869183) HT_.out ?_
                      refine pw_ 34 98 (bA 37 34359738367) HT_.out ?_
                      refine pw_ 35 99 (bA 37 68719476735) HT_.out ?_
                      refine pw_ 36 100 (bA 37 137438953471) HT_.out ?_
                      refine done_ (done_of HT_.out (by kernel_rfl)) ?_
                      clear hHeld HT_ HW_
                      go_wp2_with fail
                      go_meet
                      exact ⟨rfl, rfl⟩
                    · have e3 : ((v' : Int) == s) = false := beq_eq_false_iff_ne.2 hvs
                      have : bad = false := by
                        rw [← hb]
                        exact decide_eq_false (by simp [hb0, he0, hvs])
                      subst this
                      clear hb hb0 he0 hvs
                      refine start_ (n := 37) (S := fun w' => w'.cell? ⟨gq, 0, none⟩ = some (.int .i64 v') ∧ w'.cell? ⟨gq, 1, none⟩ = some (.bool false) ∧ w'.cell? ⟨gq, 2, none⟩ = some (.int .u32 (b : Int)) ∧ w'.cell? ⟨gq, 3, none⟩ = some (.int .i64 ed) ∧ w'.cell? ⟨gu, i, none⟩ = some (.int .u32 (dv : Int)) ∧ w'.cell? ⟨g5, 0, none⟩ = some (.int .i64 s)) (ds := []) (bA 37 0) (by kernel_rfl) rfl rfl ⟨(by rw [hwd]; exact c0), (by rw [hwd]; exact c1), (by rw [hwd]; exact c2), (by rw [hwd]; exact c3), (by rw [hwd]; exact cu), (by rw [hwd]; exact t0)⟩ (fun hHeld => ?_)
                      rw [hwd] at hHeld ⊢
                      refine with_tabW tb11_14.tab14 tb11_14.bits14 (fun HT_ HW_ => ?_)
                      refine pw_ 0 64 (bA 37 1) HT_.out ?_
                      refine tw_ 1 65 (bA 37 3) HT_.out HW_.out hHeld (hv := by rintro w' ⟨s0, s1, s2, s3, s4, s5⟩; go_simp; with_reducible rfl) (h := ?_)
                      refine pw_ 2 66 (bA 37 7) HT_.out ?_
                      refine pu_ 3 67 (bA 37 15) HT_.out ?_
                      refine pu_ 4 68 (bA 37 31) HT_.out ?_
                      refine pu_ 5 69 (bA 37 63) HT_.out ?_
                      refine pu_ 6 70 (bA 37 127) HT_.out ?_
                      refine pu_ 7 71 (bA 37 255) HT_.out ?_
                      refine pu_ 8 72 (bA 37 511) HT_.out ?_
                      refine pu_ 9 73 (bA 37 1023) HT_.out ?_
                      refine pu_ 10 74 (bA 37 2047) HT_.out ?_
                      refine pw_ 11 75 (bA 37 4095) HT_.out ?_
                      refine pw_ 12 76 (bA 37 8191) HT_.out ?_
                      refine pw_ 13 77 (bA 37 16383) HT_.out ?_
                      refine tw_ 14 78 (bA 37 32767) HT_.out HW_.out hHeld (hv := by rintro w' ⟨s0, s1, s2, s3, s4, s5⟩; go_simp; with_reducible rfl) (h := ?_)
                      refine pw_ 15 79 (bA 37 65535) HT_.out ?_
                      refine pw_ 16 80 (bA 37 131071) HT_.out ?_
                      refine pw_ 17 81 (bA 37 262143) HT_.out ?_
                      refine pw_ 19 83 (bA 37 786431) HT_.out ?_
                      refine pw_ 20 84 (bA 37 1835007) HT_.out ?_
                      refine pw_ 21 85 (bA 37 3932159) HT_.out ?_
                      refine tw_ 18 82 (bA 37 4194303) HT_.out HW_.out hHeld (hv := by rintro w' ⟨s0, s1, s2, s3, s4, s5⟩; go_simp; with_reducible rfl) (h := ?_)
                      refine tw_ 22 86 (bA 37 8388607) HT_.out HW_.out hHeld (hv := by rintro w' ⟨s0, s1, s2, s3, s4, s5⟩; go_simp; with_reducible rfl) (h := ?_)
                      refine pw_ 23 87 (bA 37 16777215) HT_.out ?_
                      refine pw_ 24 88 (bA 37 33554431) HT_.out ?_
                      refine pw_ 25 89 (bA 37 67108863) HT_.out ?_
                      refine pw_ 28 92 (bA 37 335544319) HT_.out ?_
                      refine pw_ 30 94 (bA 37 1409286143) HT_.out ?_
                      refine tw_ 26 90 (bA 37 1476395007) HT_.out HW_.out hHeld (hv := by rintro w' ⟨s0, s1, s2, s3, s4, s5⟩; go_simp; with_reducible rfl) (h := ?_)
                      refine pw_ 27 91 (bA 37 1610612735) HT_.out ?_
                      refine tw_ 29 93 (bA 37 2147483647) HT_.out HW_.out hHeld (hv := by rintro w' ⟨s0, s1, s2, s3, s4, s5⟩; go_simp; with_reducible rfl) (h := ?_)
                      refine tw_ 31 95 (bA 37 4294967295) HT_.out HW_.out hHeld (hv := by rintro w' ⟨s0, s1, s2, s3, s4, s5⟩; go_simp; with_reducible rfl) (h := ?_)
                      refine pw_ 32 96 (bA 37 8589934591) HT_.out ?_
                      refine pw_ 33 97 (bA 37 17179869183) HT_.out ?_
                      refine pw_ 34 98 (bA 37 34359738367) HT_.out ?_
                      refine pw_ 35 99 (bA 37 68719476735) HT_.out ?_
                      refine pw_ 36 100 (bA 37 137438953471) HT_.out ?_
                      refine done_ (done_of HT_.out (by kernel_rfl)) ?_
                      clear hHeld HT_ HW_
                      go_wp2_with fail
                      go_meet
                      exact ⟨rfl, rfl⟩
                · have e1 : ((b : Int) != (dv : Int)) = true := by simpa using fun h : (b : Int) = (dv : Int) => hb0 (by omega)
                  have : bad = true := by
                    rw [← hb]
                    exact decide_eq_true (.inl hb0)
                  subst this
                  clear hb hb0
                  refine start_ (n := 37) (S := fun w' => w'.cell? ⟨gq, 0, none⟩ = some (.int .i64 v') ∧ w'.cell? ⟨gq, 1, none⟩ = some (.bool false) ∧ w'.cell? ⟨gq, 2, none⟩ = some (.int .u32 (b : Int)) ∧ w'.cell? ⟨gq, 3, none⟩ = some (.int .i64 ed) ∧ w'.cell? ⟨gu, i, none⟩ = some (.int .u32 (dv : Int)) ∧ w'.cell? ⟨g5, 0, none⟩ = some (.int .i64 s)) (ds := []) (bA 37 0) (by kernel_rfl) rfl rfl ⟨(by rw [hwd]; exact c0), (by rw [hwd]; exact c1), (by rw [hwd]; exact c2), (by rw [hwd]; exact c3), (by rw [hwd]; exact cu), (by rw [hwd]; exact t0)⟩ (fun hHeld => ?_)
                  rw [hwd] at hHeld ⊢
                  refine with_tabW tb11_14.tab14 tb11_14.bits14 (fun HT_ HW_ => ?_)
                  refine pw_ 0 64 (bA 37 1) HT_.out ?_
                  refine tw_ 1 65 (bA 37 3) HT_.out HW_.out hHeld (hv := by rintro w' ⟨s0, s1, s2, s3, s4, s5⟩; go_simp; with_reducible rfl) (h := ?_)
                  refine pw_ 2 66 (bA 37 7) HT_.out ?_
                  refine pu_ 3 67 (bA 37 15) HT_.out ?_
                  refine pu_ 4 68 (bA 37 31) HT_.out ?_
                  refine pu_ 5 69 (bA 37 63) HT_.out ?_
                  refine pu_ 6 70 (bA 37 127) HT_.out ?_
                  refine pu_ 7 71 (bA 37 255) HT_.out ?_
                  refine pu_ 8 72 (bA 37 511) HT_.out ?_
                  refine pu_ 9 73 (bA 37 1023) HT_.out ?_
                  refine pu_ 10 74 (bA 37 2047) HT_.out ?_
                  refine pw_ 11 75 (bA 37 4095) HT_.out ?_
                  refine pw_ 12 76 (bA 37 8191) HT_.out ?_
                  refine pw_ 13 77 (bA 37 16383) HT_.out ?_
                  refine tw_ 14 78 (bA 37 32767) HT_.out HW_.out hHeld (hv := by rintro w' ⟨s0, s1, s2, s3, s4, s5⟩; go_simp; with_reducible rfl) (h := ?_)
                  refine pw_ 15 79 (bA 37 65535) HT_.out ?_
                  refine pw_ 16 80 (bA 37 131071) HT_.out ?_
                  refine pw_ 17 81 (bA 37 262143) HT_.out ?_
                  refine pw_ 19 83 (bA 37 786431) HT_.out ?_
                  refine pw_ 20 84 (bA 37 1835007) HT_.out ?_
                  refine pw_ 21 85 (bA 37 3932159) HT_.out ?_
                  refine tw_ 18 82 (bA 37 4194303) HT_.out HW_.out hHeld (hv := by rintro w' ⟨s0, s1, s2, s3, s4, s5⟩; go_simp; with_reducible rfl) (h := ?_)
                  refine tw_ 22 86 (bA 37 8388607) HT_.out HW_.out hHeld (hv := by rintro w' ⟨s0, s1, s2, s3, s4, s5⟩; go_simp; with_reducible rfl) (h := ?_)
                  refine pw_ 23 87 (bA 37 16777215) HT_.out ?_
                  refine pw_ 24 88 (bA 37 33554431) HT_.out ?_
                  refine pu_ 25 89 (bA 37 67108863) HT_.out ?_
                  refine pu_ 26 90 (bA 37 134217727) HT_.out ?_
                  refine pu_ 27 91 (bA 37 268435455) HT_.out ?_
                  refine pu_ 28 92 (bA 37 536870911) HT_.out ?_
                  refine pu_ 29 93 (bA 37 1073741823) HT_.out ?_
                  refine pu_ 30 94 (bA 37 2147483647) HT_.out ?_
                  refine pu_ 31 95 (bA 37 4294967295) HT_.out ?_
                  refine pu_ 32 96 (bA 37 8589934591) HT_.out ?_
                  refine pu_ 33 97 (bA 37 17179869183) HT_.out ?_
                  refine pw_ 34 98 (bA 37 34359738367) HT_.out ?_
                  refine pw_ 35 99 (bA 37 68719476735) HT_.out ?_
                  refine pw_ 36 100 (bA 37 137438953471) HT_.out ?_
                  refine done_ (done_of HT_.out (by kernel_rfl)) ?_
                  clear hHeld HT_ HW_
                  go_wp2_with fail
                  go_meet
                  exact ⟨rfl, rfl⟩
            case rest =>
              obtain ⟨rfl, rfl⟩ := hcut
              clear c0 c1 c2 c3 t0 cu hwd HBAD HFF q1
              cases bad with
              | true =>
                have HQ := Lib.hid (HST.out rfl)
                go_wp2
                go_ret
                have hbb := HT8.out.2.b
                rw [hg5] at hbb
                exact .inl ⟨rfl, hbb⟩
              | false =>
                have HN := Lib.hid (show ∀ p ∈ (sl.zip d).take (i + 1), claimB s ds p = true from fun p hp => by
                  rw [List.take_add_one, HJ.out.2.2.2.2.2] at hp
                  rcases List.mem_append.1 hp with h | h
                  · exact HJ.out.2.2.1 p h
                  · have : p = (v', dv) := by simpa using h
                    subst this
                    rw [HCB2.out]
                    rfl)
                clear HCB2 HST
                go_wp2
                go_roundg k1
                case measure => have := HJ.out.1; omega
                case rel => exact ⟨i + 1, by go_num, Lib.hid ⟨by have := HJ.out.1; omega, HT8.out.2, HN.out⟩⟩
          · have HQ := Lib.hid (HFA.out _ hmem (.inl (by
              rw [HCB.out, show (f == decide (dv = FAR)) = false from beq_eq_false_iff_ne.2 hff]
              rfl)))
            have q1 : (f == ((dv : Int) == 4294967295)) = false := by
              by_cases hd : dv = FAR
              · rw [decide_eq_true hd] at hff
                rw [hd]
                cases f with
                | true => exact absurd rfl hff
                | false => rfl
              · rw [decide_eq_false hd] at hff
                rw [show ((dv : Int) == 4294967295) = false from beq_eq_false_iff_ne.2 (by unfold FAR at hd; omega)]
                cases f with
                | true => rfl
                | false => exact absurd rfl hff
            clear HCB hmem hff
            refine start_ (n := 8) (S := fun w' => w'.cell? ⟨gq, 1, none⟩ = some (.bool f) ∧ w'.cell? ⟨gu, i, none⟩ = some (.int .u32 (dv : Int))) (ds := []) (bA 8 0) (by kernel_rfl) rfl rfl ⟨(by rw [hwd]; exact c1), (by rw [hwd]; exact cu)⟩ (fun hHeld => ?_)
            rw [hwd] at hHeld ⊢
            refine with_tabW tb11_12.tab12 tb11_12.bits12 (fun HT_ HW_ => ?_)
            refine pw_ 0 56 (bA 8 1) HT_.out ?_
            refine pw_ 2 58 (bA 8 5) HT_.out ?_
            refine pw_ 3 59 (bA 8 13) HT_.out ?_
            refine pw_ 4 60 (bA 8 29) HT_.out ?_
            refine tw_ 1 57 (bA 8 31) HT_.out HW_.out hHeld (hv := by rintro w' ⟨s0, s1⟩; go_simp; with_reducible rfl) (h := ?_)
            refine tw_ 5 61 (bA 8 63) HT_.out HW_.out hHeld (hv := by rintro w' ⟨s0, s1⟩; go_simp; with_reducible rfl) (h := ?_)
            refine pw_ 6 62 (bA 8 127) HT_.out ?_
            refine pw_ 7 63 (bA 8 255) HT_.out ?_
            refine done_ (done_of HT_.out (by kernel_rfl)) ?_
            clear hHeld HT_ HW_; clear c1 cu hwd
            go_wp2
            go_ret
            have hbb := HT7.out.2.b
            rw [hg5] at hbb
            exact .inl ⟨rfl, hbb⟩
      · obtain rfl : nd = i := by omega
        have hzl : (sl.zip d).length = nd := by
          rw [List.length_zip, HD.out.1, HP.out.2.2.2.1]
          exact Nat.min_self _
        rw [List.take_of_length_le (by omega)] at hall
        have hk : ∀ v ∈ sl, 0 ≤ dsI ds v := fun v hv => by
          obtain ⟨k, hk, rfl⟩ := List.getElem_of_mem hv
          have hkd : k < d.length := by have := HD.out.1; have := HP.out.2.2.2.1; omega
          have h1 := hall _ (List.mem_of_getElem? (HZ.out k _ _ (List.getElem?_eq_getElem hk) (List.getElem?_eq_getElem hkd)))
          unfold claimB at h1
          simp only [Bool.and_eq_true, decide_eq_true_eq] at h1
          exact h1.1.1
        have hsn : sl.Nodup := HP.out.1.imp fun h e => by omega
        have hperm : sl.Perm (ds.map (·.1)) := perm_of_allI sl _ hsn (fun v hv => dsI_mem (hk v hv)) (by
          rw [List.length_map, HP.out.2.2.2.1, HE.out.2.2.2.2.2.2])
        have HK := Lib.hid (And.intro (hperm.nodup_iff.1 hsn) (fun u (hu : u ∈ sl) => hperm.mem_iff.1 hu))
        have HALL := Lib.hid (And.intro hall hzl)
        have HT1 := Lib.hid hT
        have jn : decide ((nd : Int) < (nd : Int)) = false := by rw [decide_eq_false_iff_not]; omega
        clear hall hk hsn hperm hik hi hT hzl
        go_wp2_with fail
        clear q0
        go_loopg [12] nd (fun kq v12 w' => ∃ i : Nat, v12 = .int .i64 (i : Int) ∧ Hid (i + kq = nd ∧ TrW w g7 g5 A5 AE AD A8 nd cg m ceE nd cd c8 s sl es2 ds d w' ∧ ∀ p ∈ (sl.zip d).take i, wayOk es2 s nd ds p = true))
        case atStart => exact ⟨0, rfl, Lib.hid ⟨by omega, HT1.out, fun p hp => by simp at hp⟩⟩
        case round =>
          clear HT1
          obtain ⟨i, rfl, hI⟩ := hrel
          obtain ⟨hik, hT, hall⟩ := hI.out
          clear hI
          have q0 := hT.x.cell 0 rfl
          by_cases hi : i < nd
          · obtain ⟨k1, rfl⟩ : ∃ k1, gk = k1 + 1 := ⟨gk - 1, by omega⟩
            obtain ⟨v, hx⟩ : ∃ x, sl[i]? = some x := ⟨_, List.getElem?_eq_getElem (by have := HP.out.2.2.2.1; omega)⟩
            obtain ⟨dv, hdx⟩ : ∃ x, d[i]? = some x := ⟨_, List.getElem?_eq_getElem (by have := HD.out.1; omega)⟩
            have hzx := HZ.out i v dv hx hdx
            obtain ⟨ga, hga, cv0⟩ := hT.v i v hx
            subst hga
            obtain ⟨gu, hgu, cu0⟩ := hT.u i dv hdx
            subst hgu
            have i0 : (0 : Int) ≤ (i : Int) := by omega
            have i1 : (i : Int) < (nd : Int) := by omega
            have HJ := Lib.hid (And.intro hik (And.intro hT (And.intro hall (And.intro hx (And.intro hdx hzx)))))
            clear hik hT hall hx hdx hzx hi cv0 cu0
            go_upto_region 19 with (fail)
            clear q0
            obtain ⟨wd, hwd⟩ : ∃ wd, wr.drew = wd := ⟨_, rfl⟩
            have hTd : TrW w g7 g5 (some ⟨ga, 0, none⟩) AE AD (some ⟨gu, 0, none⟩) nd cg m ceE nd cd c8 s sl es2 ds d wd := by rw [← hwd]; exact HJ.out.2.1.below (Below.refl _ _).drew
            have q0 := hTd.x.cell 0 rfl
            have q1 := hTd.x.cell 1 rfl
            have q2 := hTd.x.cell 2 rfl
            have q3 := hTd.x.cell 3 rfl
            have t0 := hTd.t.cell 0 rfl
            have t1 := hTd.t.cell 1 rfl
            obtain ⟨ga', hga, cv⟩ := hTd.v i v HJ.out.2.2.2.1
            cases hga
            obtain ⟨gu', hgu, cu⟩ := hTd.u i dv HJ.out.2.2.2.2.1
            cases hgu
            have HTd := Lib.hid hTd
            have HN0 := Lib.hid (show wayOk es2 s nd ds (v, dv) = true → ∀ p ∈ (sl.zip d).take (i + 1), wayOk es2 s nd ds p = true from fun hw p hp => by
              rw [List.take_add_one, HJ.out.2.2.2.2.2] at hp
              rcases List.mem_append.1 hp with h | h
              · exact HJ.out.2.2.1 p h
              · have : p = (v, dv) := by simpa using h
                subst this
                exact hw)
            clear hTd
            by_cases hdf : dv = FAR
            · have e1 : ((dv : Int) != 4294967295) = false := by rw [hdf]; rfl
              have HN := Lib.hid (HN0.out (by unfold wayOk; rw [decide_eq_true hdf]; rfl))
              clear HN0 hdf
              refine start_ (n := 20) (S := fun w' => w'.cell? ⟨g7, 0, none⟩ = some (.slice (some ⟨ga, 0, none⟩) nd cg) ∧ w'.cell? ⟨g7, 1, none⟩ = some (.slice AE m ceE) ∧ w'.cell? ⟨g7, 2, none⟩ = some (.int .i64 0) ∧ w'.cell? ⟨g7, 3, none⟩ = some (.int .i64 0) ∧ w'.cell? ⟨g5, 0, none⟩ = some (.int .i64 s) ∧ w'.cell? ⟨g5, 1, none⟩ = some (.slice AD nd cd) ∧ w'.cell? ⟨ga, i, none⟩ = some (.int .i64 v) ∧ w'.cell? ⟨gu, i, none⟩ = some (.int .u32 (dv : Int))) (ds := []) (bA 20 0) (by kernel_rfl) rfl rfl ⟨(by rw [hwd]; exact q0), (by rw [hwd]; exact q1), (by rw [hwd]; exact q2), (by rw [hwd]; exact q3), (by rw [hwd]; exact t0), (by rw [hwd]; exact t1), (by rw [hwd]; exact cv), (by rw [hwd]; exact cu)⟩ (fun hHeld => ?_)
              rw [hwd] at hHeld ⊢
              refine with_tabW tb11_19.tab19 tb11_19.bits19 (fun HT_ HW_ => ?_)
              refine pw_ 0 108 (bA 20 1) HT_.out ?_
              refine pw_ 1 109 (bA 20 3) HT_.out ?_
              refine pw_ 2 110 (bA 20 7) HT_.out ?_
              refine tw_ 3 111 (bA 20 15) HT_.out HW_.out hHeld (hv := by rintro w' ⟨s0, s1, s2, s3, s4, s5, s6, s7⟩; go_simp; with_reducible rfl) (h := ?_)
              refine pw_ 4 112 (bA 20 31) HT_.out ?_
              refine pw_ 5 113 (bA 20 63) HT_.out ?_
              refine pu_ 6 114 (bA 20 127) HT_.out ?_
              refine pu_ 7 115 (bA 20 255) HT_.out ?_
              refine pu_ 8 116 (bA 20 511) HT_.out ?_
              refine pu_ 9 117 (bA 20 1023) HT_.out ?_
              refine pu_ 10 118 (bA 20 2047) HT_.out ?_
              refine pu_ 11 119 (bA 20 4095) HT_.out ?_
              refine pu_ 12 120 (bA 20 8191) HT_.out ?_
              refine pu_ 13 121 (bA 20 16383) HT_.out ?_
              refine pu_ 14 122 (bA 20 32767) HT_.out ?_
              refine pu_ 15 123 (bA 20 65535) HT_.out ?_
              refine pu_ 16 124 (bA 20 131071) HT_.out ?_
              refine pu_ 17 125 (bA 20 262143) HT_.out ?_
              refine pu_ 18 126 (bA 20 524287) HT_.out ?_
              refine pw_ 19 127 (bA 20 1048575) HT_.out ?_
              refine done_ (done_of HT_.out (by kernel_rfl)) ?_
              clear hHeld HT_ HW_; clear q0 q1 q2 q3 t0 t1 cv cu hwd
              go_wp2
              go_roundg k1
              case measure => have := HJ.out.1; omega
              case rel => exact ⟨i + 1, by go_num, Lib.hid ⟨by have := HJ.out.1; omega, HTd.out, HN.out⟩⟩
            · have e1 : ((dv : Int) != 4294967295) = true := by simpa using fun h : (dv : Int) = 4294967295 => hdf (by unfold FAR; omega)
              obtain ⟨wb, hwb⟩ : ∃ x, wayB es2 ds s nd v dv = x := ⟨_, rfl⟩
              have HWY := Lib.hid (show ∀ W, Below wd.heap.size wd W → Calls Tryz.prog 35 #[.agg #[.slice (some ⟨ga, 0, none⟩) nd cg, .slice AE m ceE, .int .i64 0, .int .i64 0], .agg #[.int .i64 s, .slice AD nd cd], .int .i64 v, .int .u32 (dv : Int)] W fun e w' => e = .returned (.bool wb) ∧ Below W.heap.size W w' from fun W hW => by
                obtain ⟨h1, h2, h3, h4, h5, h6⟩ := HP.out
                have := way_calls (gw := 0) W (some ⟨ga, 0, none⟩) AE AD cg ceE cd sl es2 ds s v dv (HTd.out.e.below hW) (HTd.out.q.below hW) (by omega) (by omega) (by rw [HE.out.2.2.2.2.2.2]; exact hvl) h3 (fun p hp => (h2 p hp).1) HK.out.1 HK.out.2 (List.mem_of_getElem? HJ.out.2.2.2.1)
                rw [h4, h5, HE.out.2.2.2.2.2.2, hwb] at this
                exact this)
              have hwk : wayOk es2 s nd ds (v, dv) = wb := by
                unfold wayOk
                rw [decide_eq_false hdf, Bool.false_or]
                exact hwb
              have HWK := Lib.hid hwk
              clear hwb hwk hdf
              refine start_ (n := 20) (S := fun w' => w'.cell? ⟨g7, 0, none⟩ = some (.slice (some ⟨ga, 0, none⟩) nd cg) ∧ w'.cell? ⟨g7, 1, none⟩ = some (.slice AE m ceE) ∧ w'.cell? ⟨g7, 2, none⟩ = some (.int .i64 0) ∧ w'.cell? ⟨g7, 3, none⟩ = some (.int .i64 0) ∧ w'.cell? ⟨g5, 0, none⟩ = some (.int .i64 s) ∧ w'.cell? ⟨g5, 1, none⟩ = some (.slice AD nd cd) ∧ w'.cell? ⟨ga, i, none⟩ = some (.int .i64 v) ∧ w'.cell? ⟨gu, i, none⟩ = some (.int .u32 (dv : Int))) (ds := []) (bA 20 0) (by kernel_rfl) rfl rfl ⟨(by rw [hwd]; exact q0), (by rw [hwd]; exact q1), (by rw [hwd]; exact q2), (by rw [hwd]; exact q3), (by rw [hwd]; exact t0), (by rw [hwd]; exact t1), (by rw [hwd]; exact cv), (by rw [hwd]; exact cu)⟩ (fun hHeld => ?_)
              rw [hwd] at hHeld ⊢
              refine with_tabW tb11_19.tab19 tb11_19.bits19 (fun HT_ HW_ => ?_)
              refine pw_ 0 108 (bA 20 1) HT_.out ?_
              refine pw_ 1 109 (bA 20 3) HT_.out ?_
              refine pw_ 2 110 (bA 20 7) HT_.out ?_
              refine tw_ 3 111 (bA 20 15) HT_.out HW_.out hHeld (hv := by rintro w' ⟨s0, s1, s2, s3, s4, s5, s6, s7⟩; go_simp; with_reducible rfl) (h := ?_)
              refine pw_ 4 112 (bA 20 31) HT_.out ?_
              refine pw_ 5 113 (bA 20 63) HT_.out ?_
              refine pw_ 8 116 (bA 20 319) HT_.out ?_
              refine pw_ 10 118 (bA 20 1343) HT_.out ?_
              refine pw_ 13 121 (bA 20 9535) HT_.out ?_
              refine pw_ 14 122 (bA 20 25919) HT_.out ?_
              refine pw_ 15 123 (bA 20 58687) HT_.out ?_
              refine tw_ 6 114 (bA 20 58751) HT_.out HW_.out hHeld (hv := by rintro w' ⟨s0, s1, s2, s3, s4, s5, s6, s7⟩; go_simp; with_reducible rfl) (h := ?_)
              refine tw_ 7 115 (bA 20 58879) HT_.out HW_.out hHeld (hv := by rintro w' ⟨s0, s1, s2, s3, s4, s5, s6, s7⟩; go_simp; with_reducible rfl) (h := ?_)
              refine tw_ 9 117 (bA 20 59391) HT_.out HW_.out hHeld (hv := by rintro w' ⟨s0, s1, s2, s3, s4, s5, s6, s7⟩; go_simp; with_reducible rfl) (h := ?_)
              refine pw_ 11 119 (bA 20 61439) HT_.out ?_
              refine tw_ 12 120 (bA 20 65535) HT_.out HW_.out hHeld (hv := by rintro w' ⟨s0, s1, s2, s3, s4, s5, s6, s7⟩; go_simp; with_reducible rfl) (h := ?_)
              refine tw_ 16 124 (bA 20 131071) HT_.out HW_.out hHeld (hv := by rintro w' ⟨s0, s1, s2, s3, s4, s5, s6, s7⟩; go_simp; with_reducible rfl) (h := ?_)
              refine one_ (i := 17) (N := some 125) (bA 20 262143) rfl rfl (one_of HT_.out (by kernel_rfl)) (by decide) (fun K hK => ?_)
              refine gw_ Tryz.func35 #[.agg #[.slice (some ⟨ga, 0, none⟩) nd cg, .slice AE m ceE, .int .i64 0, .int .i64 0], .agg #[.int .i64 s, .slice AD nd cd], .int .i64 v, .int .u32 (dv : Int)] ?_
              with_reducible refine ((HWY.out wd (Below.refl _ _))).mono ?_
              rintro e wa ⟨rfl, hb_wa⟩
              refine ⟨_, rfl, ?_⟩
              refine hK.out _ _ ⟨(keep_at hb_wa (show (wd).cell? _ = _ from q0)), (keep_at hb_wa (show (wd).cell? _ = _ from q1)), (keep_at hb_wa (show (wd).cell? _ = _ from q2)), (keep_at hb_wa (show (wd).cell? _ = _ from q3)), (keep_at hb_wa (show (wd).cell? _ = _ from t0)), (keep_at hb_wa (show (wd).cell? _ = _ from t1)), (keep_at hb_wa (show (wd).cell? _ = _ from cv)), (keep_at hb_wa (show (wd).cell? _ = _ from cu))⟩ (fun hHeld => ?_)
              clear hK K
              refine norm_ (a' := ?_) ?_ ?_
              rotate_left
              · show Act.put _ (some 125) _ = _
                simp only [Act.put, pA, pB, pC, pD, pE]; rfl
              refine pw_ 18 126 (bA 20 524287) HT_.out ?_
              refine pw_ 19 127 (bA 20 1048575) HT_.out ?_
              refine done_ (done_of HT_.out (by kernel_rfl)) ?_
              clear hHeld HT_ HW_; clear q0 q1 q2 q3 t0 t1 cv cu hwd HWY
              have HTa := Lib.hid (HTd.out.below hb_wa)
              clear hb_wa HTd
              cases wb with
              | false =>
                have HQ := Lib.hid (HFA.out _ (List.mem_of_getElem? HJ.out.2.2.2.2.2) (.inr HWK.out))
                go_wp2
                go_ret
                have hbb := HTa.out.b
                have hbc := hbb
                rw [hg5] at hbc
                first | exact ⟨false, rfl, HQ, hbb⟩ | exact ⟨false, rfl, HQ, hbc⟩
              | true =>
                have HN := Lib.hid (HN0.out HWK.out)
                clear HN0 HWK
                go_wp2
                go_roundg k1
                case measure => have := HJ.out.1; omega
                case rel => exact ⟨i + 1, by go_num, Lib.hid ⟨by have := HJ.out.1; omega, HTa.out, HN.out⟩⟩
          · obtain rfl : nd = i := by omega
            rw [List.take_of_length_le (by have := HALL.out.2; omega)] at hall
            have HQ := Lib.hid (HQT.out true d HD.out.1 HD.out.2.1 HD.out.2.2 (by
              rw [List.all_eq_true.2 HALL.out.1, List.all_eq_true.2 hall]
              rfl))
            have hbb := hT.b
            rw [hg5] at hbb
            have HBB := Lib.hid hbb
            have jn : decide ((nd : Int) < (nd : Int)) = false := by rw [decide_eq_false_iff_not]; omega
            clear hall hik hi hT hbb
            go_wp2
            go_ret
            first | exact ⟨true, rfl, HQ, HBB.out⟩ | exact ⟨true, rfl, HQ, by rw [hg5]; exact HBB.out⟩
  · have HQ := Lib.hid (show RefTree vs es s ds false from .inl ⟨by
      rw [HTC.out, HE.out.2.2.2.2.1, HE.out.2.2.2.2.2.2]
      omega, rfl⟩)
    have e1 : tc = 0 → nd ≠ n := fun h1 h2 => htn ⟨h1, h2⟩
    clear htn
    by_cases ht : tc = 0
    · have q1 : ((tc : Int) != 0) = false := by rw [ht]; rfl
      have q2 : ((nd : Int) != (n : Int)) = true := by
        have := e1 ht
        simpa using fun h : (nd : Int) = (n : Int) => this (by omega)
      clear e1
      go_enter Tryz.func11, Tryz.ntmps11
      go_wp2_with fail
      refine (HERR.out _ HB0.out).mono ?_
      clear HERR
      rintro e w1 ⟨rfl, hb1⟩
      have HB1 := Lib.hid (And.intro (HB0.out.trans (hb1.mono HB0.out.size)) (show At w1 w.heap.size [.int .i64 s, .slice AD nd cd] 26 from (At.made rfl rfl).below hb1 (by simp)))
      have t1 := HB1.out.2.cell 1 rfl
      clear hb1
      go_wp2
      go_ret
      exact ⟨false, rfl, HQ, HB1.out.1⟩
    · have q1 : ((tc : Int) != 0) = true := by simpa using fun h : (tc : Int) = 0 => ht (by omega)
      clear e1 ht
      go_enter Tryz.func11, Tryz.ntmps11
      go_wp2_with fail
      refine (HERR.out _ HB0.out).mono ?_
      clear HERR
      rintro e w1 ⟨rfl, hb1⟩
      have HB1 := Lib.hid (HB0.out.trans (hb1.mono HB0.out.size))
      clear hb1
      go_wp2
      go_ret
      exact ⟨false, rfl, HQ, HB1.out⟩
end Go.Proofs.YtgihncjllelonaaGreat.Ce
