/- brambleref11: Grow, walked. -/
import Derived.Test.YtdohfjidnbhfnaaGg35
import Derived.Test.YtdohfjidnbhfnaaGg38
namespace Go.Proofs.Ytdohfjidnbhfnaa.Lc
open Go Go.RowKit Go.Proofs.Ytdohfjidnbhfnaa.Mem Go.Proofs.Ytdohfjidnbhfnaa.Sl Go.Proofs.Ytdohfjidnbhfnaa.Scc Go.Proofs.Ytdohfjidnbhfnaa.Tj Go.Proofs.Ytdohfjidnbhfnaa.Lw Go.Proofs.Ytdohfjidnbhfnaa.Cv Go.Proofs.Ytdohfjidnbhfnaa.Rb Go.Proofs.YtdohfjidnbhfnaaW.PrintWords Go.Proofs.YtdohfjidnbhfnaaW.PrintLast
attribute [local go_sem ↓] Go.wp_at_zero Go.wp_at_succ
set_option linter.unusedSimpArgs false
set_option linter.unusedVariables false

def RdW (w : World) (v : Value) (n size : Nat) (news : List Value) : Prop := RdV w v n size news ∨ ∃ c, v = .slice none 0 c ∧ n = 0 ∧ news = []
theorem run_append_nil {P : Program} (w : World) (base : Nat) (t ty e : TypeId) (i : TypeInfo) (size : Nat) (ht : P.underlying t = some (.slice e)) (hi : P.info? e = some i)
    (v : Value) (n c : Nat) (xs : List Value) (hown : w.ownsRow base e size v n xs) : (Builtin.append_ #[t, t] ty #[v, .slice none 0 c]).run P w = .ok v w := by
  rcases hown.2 with ⟨rfl, rfl⟩ | ⟨g, cap, cur, rfl, _, _, hnc, _⟩
  · simp [Builtin.append_, run_underlying ht, sizeOf, typeInfo, hi, Builtin.lenOf, Builtin.firstCells]
  · simp [Builtin.append_, run_underlying ht, sizeOf, typeInfo, hi, Builtin.lenOf, Builtin.firstCells, hnc, storeCells]
theorem step_append_w {P : Program} {w : World} {ops : Array Oper} {o : Oper} {a : Act} {K : Act → World → Prop} {Q : Exit → Act → World → Prop} {E : Prop} (hgd : o.guard = none) (s x : Operand) (t : TypeId)
    (ho : o.op = .call { callee := .builtin .append, args := #[s, x], argTypes := #[t, t] })
    (base : Nat) (e : TypeId) (i : TypeInfo) (z : Value) (size bytes : Nat) (ht : P.underlying t = some (.slice e)) (hi : P.info? e = some i) (hz : i.zero = some z)
    (hsize : i.size = size) (hby : i.bytes = bytes) (hzs : z.cells.size = size) (hsz : 0 < size) (v : Value) (n : Nat) (xs : List Value) (hs : a.eval s = v) (hown : w.ownsRow base e size v n xs)
    (xv : Value) (hxv : a.eval x = xv) (m : Nat) (news : List Value) (hx : RdW w xv m size news) (h63 : n + m ≤ maxLen) (hbytes : (n + m) * bytes ≤ 140737488355328) (hbase : base ≤ w.heap.size)
    (h : ∀ v' w', w'.ownsRow base e size v' (n + m) (xs ++ news) → w.grownBy w' v.ownBlock → K (a.put o.dst v') w') :
    if Region.wanted o (yielded ops a.tmps) = true then Oper.wp P o a w K Q else E := by
  rcases hx with hx | ⟨c, rfl, rfl, rfl⟩
  · exact step_append_any hgd s x t ho base e i z size bytes ht hi hz hsize hby hzs hsz v n xs hs hown xv hxv m news hx h63 hbytes hbase fun v' w' a b _ => h v' w' a b
  · have hw : Region.wanted o (yielded ops a.tmps) = true := by simp [Region.wanted, hgd]
    rw [if_pos hw]
    have hr := run_append_nil (P := P) w base t o.type e i size ht hi v n c xs hown
    unfold Oper.wp execOp
    simp only [ho, resolve, invoke, builtin, Sem.run_bind, Sem.run_pure, Result.andThen_ok, List.map_toArray, List.map_cons, List.map_nil, hs, hxv, hr]
    exact h v w (by simpa using hown) ⟨rfl, rfl, rfl, Nat.le_refl _, fun _ _ _ => rfl⟩

theorem edD_ex : ∀ (k : Nat) (l : List (Int × Int)), l.length = k → ∃ xs, EdD l xs
  | 0, l, h => by
    obtain rfl := List.length_eq_zero_iff.1 h
    exact ⟨[], EdD.nil⟩
  | k + 1, l, h => by
    rcases List.eq_nil_or_concat l with rfl | ⟨l', ⟨a, b⟩, rfl⟩
    · cases h
    · obtain ⟨xs, hx⟩ := edD_ex k l' (by simpa using h)
      exact ⟨_, by simpa using hx.snoc rfl⟩
theorem edD_at4 {l : List (Int × Int)} {xs : List Value} (h : EdD l xs) {i : Nat} {u : Value} (hu : xs[i]? = some u) : i / 4 < l.length ∧ ((i % 4 = 0 ∧ u = .int .i64 (((i / 4 : Nat) : Int) + 1)) ∨ (i % 4 = 1 ∧ ∃ p, l[i / 4]? = some p ∧ u = .int .i64 p.1) ∨ (i % 4 = 2 ∧ ∃ p, l[i / 4]? = some p ∧ u = .int .i64 p.2) ∨ (i % 4 = 3 ∧ u = .int .u32 0)) := by
  have hi := (List.getElem?_eq_some_iff.1 hu).1
  have hl := h.1.1
  have hj : i / 4 < l.length := by omega
  obtain ⟨⟨a, b⟩, hp⟩ : ∃ p, l[i / 4]? = some p := ⟨_, List.getElem?_eq_getElem hj⟩
  obtain ⟨e0, e3⟩ := h.2 _ hj
  obtain ⟨e1, e2⟩ := h.1.2 _ a b hp
  refine ⟨hj, ?_⟩
  have hd : i = i / 4 * 4 + i % 4 := by omega
  have hm : i % 4 = 0 ∨ i % 4 = 1 ∨ i % 4 = 2 ∨ i % 4 = 3 := by omega
  rw [hd] at hu
  rcases hm with h | h | h | h <;> rw [h] at hu
  · rw [Nat.add_zero, e0] at hu
    exact .inl ⟨h, (Option.some.inj hu).symm⟩
  · rw [e1] at hu
    exact .inr (.inl ⟨h, _, hp, (Option.some.inj hu).symm⟩)
  · rw [e2] at hu
    exact .inr (.inr (.inl ⟨h, _, hp, (Option.some.inj hu).symm⟩))
  · rw [e3] at hu
    exact .inr (.inr (.inr ⟨h, (Option.some.inj hu).symm⟩))
theorem rdw_edges {w : World} {A : Option Addr} {m ce : Nat} {arcs : List (Int × Int)} {xs : List Value} (hx : EdD arcs xs) (he : RdE w A arcs) (hxx : RdX w A arcs) (hm : arcs.length = m) : RdW w (.slice A m ce) m 4 xs := by
  have hl : xs.length = m * 4 := by rw [hx.1.1, hm]
  have h1 : ∀ u ∈ xs, u.oneCell' = true := fun u hu => by
    obtain ⟨i, hi⟩ := List.getElem?_of_mem hu
    rcases (edD_at4 hx hi).2 with ⟨_, rfl⟩ | ⟨_, p, _, rfl⟩ | ⟨_, p, _, rfl⟩ | ⟨_, rfl⟩ <;> rfl
  rcases Nat.eq_zero_or_pos m with h0 | h0
  · subst h0
    have hn : xs = [] := List.length_eq_zero_iff.1 (by omega)
    subst hn
    cases A with
    | none => exact .inr ⟨ce, rfl, rfl, rfl⟩
    | some ad => exact .inl ⟨hl, h1, .inr ⟨ad, ce, rfl, fun j u hj => by simp at hj⟩⟩
  · obtain ⟨b, rfl, _⟩ := hxx 0 (by omega)
    refine .inl ⟨hl, h1, .inr ⟨_, ce, rfl, fun j u hj => ?_⟩⟩
    obtain ⟨hjl, hc⟩ := edD_at4 hx hj
    have hd : j = j / 4 * 4 + j % 4 := by omega
    have hA : (Addr.add ⟨b, 0, none⟩ j) = ⟨b, j, none⟩ := by
      unfold Addr.add
      split
      · rename_i h; rw [h]
      · simp
    rw [hA]
    obtain ⟨b1, e1, c1, c2⟩ := hxx _ hjl
    cases e1
    rcases hc with ⟨h, rfl⟩ | ⟨h, ⟨p, q⟩, hp, rfl⟩ | ⟨h, ⟨p, q⟩, hp, rfl⟩ | ⟨h, rfl⟩
    · rw [h, Nat.add_zero] at hd
      rw [← hd] at c1
      exact c1
    · obtain ⟨b2, e2, c3, c4⟩ := he _ p q hp
      cases e2
      rw [h] at hd
      rw [← hd] at c3
      exact c3
    · obtain ⟨b2, e2, c3, c4⟩ := he _ p q hp
      cases e2
      rw [h] at hd
      rw [← hd] at c4
      exact c4
    · rw [h] at hd
      exact hd ▸ c2
end Go.Proofs.Ytdohfjidnbhfnaa.Lc

/- brambleref11: Grow. -/
namespace Go.Proofs.Ytdohfjidnbhfnaa.Lc
open Go Go.RowKit Go.Proofs.Ytdohfjidnbhfnaa.Mem Go.Proofs.Ytdohfjidnbhfnaa.Sl Go.Proofs.Ytdohfjidnbhfnaa.Scc Go.Proofs.Ytdohfjidnbhfnaa.Tj Go.Proofs.Ytdohfjidnbhfnaa.Lw Go.Proofs.Ytdohfjidnbhfnaa.Cv Go.Proofs.Ytdohfjidnbhfnaa.Rb Go.Proofs.YtdohfjidnbhfnaaW.PrintWords Go.Proofs.YtdohfjidnbhfnaaW.PrintLast
attribute [local go_sem ↓] Go.wp_at_zero Go.wp_at_succ
set_option linter.unusedSimpArgs false
set_option linter.unusedVariables false

def GrowPost (w : World) (A AP AQ : Option Addr) (n c cp cq : Nat) (arcs : List (Int × Int)) (pars posts : List Int) (u v : Int) (e : Ending) (w' : World) : Prop :=
  Below w.heap.size w w' ∧ ∃ AE AR ce cr, e = .returned (.tuple #[cV A n c AE (garcs n arcs u v).length ce AP n cp AQ n cq AR n cr, .int .i64 (gcode n arcs u v : Int)]) ∧ RefC w' n A AE AP AQ AR (garcs n arcs u v) pars posts (EA (garcs n arcs u v))

structure GE (w0 : World) (gr gx : Nat) (cs : List Value) (B n : Nat) (xs : List Value) (v : Value) (W : World) : Prop where
  b : BS w0 gr gx cs W
  o : W.ownsRow B 36 4 v n xs
  h : w0.heap.size ≤ B
  s : B ≤ W.heap.size
theorem GE.start {w0 W : World} {gr gx B : Nat} {cs : List Value} (h : BS w0 gr gx cs W) (hB : B = W.heap.size) : GE w0 gr gx cs B 0 [] (.slice (some ⟨B, 0, none⟩) 0 0) (W.alloc (.cells #[] 36)) := by
  subst hB
  exact ⟨h.al, own_made rfl (Nat.le_refl _), h.b.size, by simp⟩
theorem GE.al {w0 W : World} {gr gx B n : Nat} {cs xs : List Value} {v : Value} (h : GE w0 gr gx cs B n xs v W) (o : Obj) : GE w0 gr gx cs B n xs v (W.alloc o) := ⟨h.b.al, h.o.alloc o, h.h, by have := h.s; simp; omega⟩
theorem GE.grow {w0 W W' : World} {gr gx B n n' : Nat} {cs xs xs' : List Value} {v v' : Value} (h : GE w0 gr gx cs B n xs v W) (ho : W'.ownsRow B 36 4 v' n' xs') (hg : W.grownBy W' v.ownBlock) : GE w0 gr gx cs B n' xs' v' W' :=
  ⟨h.b.grown h.o h.h (by decide) hg, ho, h.h, Nat.le_trans h.s hg.size⟩
theorem addr_add (b j : Nat) : Addr.add ⟨b, 0, none⟩ j = ⟨b, j, none⟩ := by
  unfold Addr.add
  split
  · rename_i h; rw [h]
  · simp
theorem rdV_at {W : World} {g k : Nat} {X : List Value} {T : TypeId} (h : At W g X T) (hk : X.length = 1 * k) (h1 : ∀ u ∈ X, u.oneCell' = true) : RdV W (.slice (some ⟨g, 0, none⟩) 1 1) 1 k X :=
  ⟨hk, h1, .inr ⟨_, 1, rfl, fun j u hj => by rw [addr_add]; exact h.cell j hj⟩⟩
def GF (w0 : World) (gr gx : Nat) (cs : List Value) (n : Nat) (xs X : List Value) (v vx : Value) (W : World) : Prop :=
  ∃ B gl, GE w0 gr gx cs B n xs v W ∧ vx = .slice (some ⟨gl, 0, none⟩) 1 1 ∧ At W gl X 36

theorem good_snoc {n : Nat} {arcs : List (Int × Int)} {u v : Nat} (h : Cv.Good n arcs) (hu : u < n) (hv : v < n) : Cv.Good n (arcs ++ [((u : Int), (v : Int))]) := by
  intro p hp
  rcases List.mem_append.1 hp with hp | hp
  · exact h p hp
  · obtain rfl : p = ((u : Int), (v : Int)) := by simpa using hp
    dsimp only
    omega

def tb18_5.T5 : Bool × List (List Nat × List Nat) := (true, [([], []), ([], []), ([1], [1]), ([2], [2]), ([0, 3], [0, 3]), ([], []), ([5], [5]), ([6], [6]), ([7], [7]), ([8], [8]), ([], []), ([], []), ([9, 10, 11], [9, 10, 11]), ([12], [12]), ([4, 13, 4], [4, 13]), ([0, 1, 2, 3, 4, 5, 6, 7, 8, 9, 10, 11, 12, 13, 14], []), ([15, 0, 1, 2, 3, 4, 5, 6, 7, 8, 9, 10, 11, 12, 13, 14], [15]), ([16, 14, 14, 0, 1, 2, 3, 4, 5, 6, 7, 8, 9, 10, 11, 12, 13, 14], [14, 16])])
def tb18_5.B5 : List Nat := [0, 0, 2, 6, 15, 0, 32, 96, 224, 480, 0, 0, 4064, 8160, 16383, 32767, 65535, 131071]
theorem tb18_5.tab5 : rtab .any (opsOf Try.f18 5) = tb18_5.T5 := by kernel_rfl
theorem tb18_5.bits5 : waitsOk tb18_5.T5.2 tb18_5.B5 = true := by kernel_rfl
set_option maxHeartbeats 16000000 in
set_option maxRecDepth 100000 in
theorem growR_calls (w : World) (A AE AP AQ AR : Option Addr) (n c ce cp cq cr : Nat) (arcs : List (Int × Int)) (pars posts : List Int) (u v : Int) (h : RefC w n A AE AP AQ AR arcs pars posts (EA arcs)) (hg : Cv.Good n arcs) (h1 : 1 ≤ n) (hn : n ≤ 256) (hm : arcs.length ≤ 1000) :
    Calls Try.prog 18 #[cV A n c AE arcs.length ce AP n cp AQ n cq AR n cr, .int .i64 u, .int .i64 v] w fun e w' => GrowPost w A AP AQ n c cp cq arcs pars posts u v e w' := by
  obtain ⟨i4, hi4, hz4, hs4, hy4⟩ := info_parts Lw.info_edge
  have HX := Lib.hid (And.intro h (And.intro hg h1))
  obtain ⟨m, hlen⟩ : ∃ m, arcs.length = m := ⟨_, rfl⟩
  rw [hlen] at hm ⊢
  have HM := Lib.hid hlen
  obtain ⟨bu, hbu⟩ : ∃ bu, decide (0 ≤ u ∧ u < n) = bu := ⟨_, rfl⟩
  obtain ⟨bv, hbv⟩ : ∃ bv, decide (0 ≤ v ∧ v < n) = bv := ⟨_, rfl⟩
  have hIU := fun W => is_ref W A n c AE m ce AP n cp AQ cq AR n cr u
  have hIV := fun W => is_ref W A n c AE m ce AP n cp AQ cq AR n cr v
  unfold cV at hIU hIV ⊢
  rw [hbu] at hIU
  rw [hbv] at hIV
  have HIU := Lib.hid hIU
  have HIV := Lib.hid hIV
  have HBU := Lib.hid hbu
  have HBV := Lib.hid hbv
  clear h hg hlen hIU hIV hbu hbv
  go_enter Try.func18, Try.ntmps18
  go_upto_region 1 with (fail)
  refine gen_world (fun W => BS w (w.heap.size + 1) w.heap.size [.slice A n c, .slice AE m ce, .int .i64 0, .int .i64 0, .slice AP n cp, .slice AQ n cq, .slice AR n cr] W) ?_ ?_
  · exact ⟨At.made (by simp) rfl, (At.made rfl rfl).al, by omega, by omega, Nat.le_refl _, ((Below.refl _ _).alloc (Nat.le_refl _) _).alloc (by simp) _⟩
  obtain ⟨gx, hgx⟩ : ∃ gx, w.heap.size = gx := ⟨_, rfl⟩
  obtain ⟨gr, hgr⟩ : ∃ gr, gx + 1 = gr := ⟨_, rfl⟩
  rw [hgx, hgr]
  clear hgx hgr
  intro w1 hB
  have HB := Lib.hid hB
  clear hB
  have q0 := HB.out.x.cell 0 rfl
  have q1 := HB.out.x.cell 1 rfl
  have q2 := HB.out.x.cell 2 rfl
  have q3 := HB.out.x.cell 3 rfl
  have q4 := HB.out.x.cell 4 rfl
  have q5 := HB.out.x.cell 5 rfl
  have q6 := HB.out.x.cell 6 rfl
  go_wp2_with fail
  refine (HIU.out _).mono ?_
  rintro e w2 ⟨rfl, hb2⟩
  have hB2 := HB.out.below hb2
  have HB := Lib.hid hB2
  clear hb2 hB2 q0 q1 q2 q3 q4 q5 q6 HIU
  have q0 := HB.out.x.cell 0 rfl
  have q1 := HB.out.x.cell 1 rfl
  have q2 := HB.out.x.cell 2 rfl
  have q3 := HB.out.x.cell 3 rfl
  have q4 := HB.out.x.cell 4 rfl
  have q5 := HB.out.x.cell 5 rfl
  have q6 := HB.out.x.cell 6 rfl
  cases bu with
  | false =>
    have HGA := Lib.hid (show gcode n arcs u v = 1 ∧ garcs n arcs u v = arcs from by
      have h0 := of_decide_eq_false HBU.out
      have hc : gcode n arcs u v = 1 := by unfold gcode; rw [if_pos (.inl h0)]
      exact ⟨hc, by unfold garcs; rw [hc]; rfl⟩)
    clear HIV HBU HBV
    have f0 := HB.out.r.free 0
    have d0 := HB.out.r.cell 0 rfl
    have f1 := HB.out.r.free 1
    have d1 := HB.out.r.cell 1 rfl
    have f2 := HB.out.r.free 2
    have d2 := HB.out.r.cell 2 rfl
    have f3 := HB.out.r.free 3
    have d3 := HB.out.r.cell 3 rfl
    have f4 := HB.out.r.free 4
    have d4 := HB.out.r.cell 4 rfl
    have f5 := HB.out.r.free 5
    have d5 := HB.out.r.cell 5 rfl
    have f6 := HB.out.r.free 6
    have d6 := HB.out.r.cell 6 rfl
    go_wp2
    (try simp only [Exit.inBlock, Exit.then])
    refine cover_ret _ _ HB.out.r rfl rfl (fun hO => ⟨HB.out.b.trans (hO.below HB.out.hr HB.out.b.size), AE, AR, ce, cr, ?_, ?_⟩)
    · rw [HGA.out.2, HGA.out.1, HM.out]; rfl
    · rw [HGA.out.2]; exact refC_off (HX.out.1.below HB.out.b) hO HB.out.r HX.out.2.2
  | true =>
    go_wp2_with fail
    refine (HIV.out _).mono ?_
    rintro e w3 ⟨rfl, hb3⟩
    have hB3 := HB.out.below hb3
    have HB := Lib.hid hB3
    clear hb3 hB3 q0 q1 q2 q3 q4 q5 q6 HIV
    have q0 := HB.out.x.cell 0 rfl
    have q1 := HB.out.x.cell 1 rfl
    have q2 := HB.out.x.cell 2 rfl
    have q3 := HB.out.x.cell 3 rfl
    have q4 := HB.out.x.cell 4 rfl
    have q5 := HB.out.x.cell 5 rfl
    have q6 := HB.out.x.cell 6 rfl
    cases bv with
    | false =>
      have HGA := Lib.hid (show gcode n arcs u v = 1 ∧ garcs n arcs u v = arcs from by
        have h0 := of_decide_eq_false HBV.out
        have hc : gcode n arcs u v = 1 := by unfold gcode; rw [if_pos (.inr h0)]
        exact ⟨hc, by unfold garcs; rw [hc]; rfl⟩)
      clear HBU HBV
      have f0 := HB.out.r.free 0
      have d0 := HB.out.r.cell 0 rfl
      have f1 := HB.out.r.free 1
      have d1 := HB.out.r.cell 1 rfl
      have f2 := HB.out.r.free 2
      have d2 := HB.out.r.cell 2 rfl
      have f3 := HB.out.r.free 3
      have d3 := HB.out.r.cell 3 rfl
      have f4 := HB.out.r.free 4
      have d4 := HB.out.r.cell 4 rfl
      have f5 := HB.out.r.free 5
      have d5 := HB.out.r.cell 5 rfl
      have f6 := HB.out.r.free 6
      have d6 := HB.out.r.cell 6 rfl
      go_wp2
      (try simp only [Exit.inBlock, Exit.then])
      refine cover_ret _ _ HB.out.r rfl rfl (fun hO => ⟨HB.out.b.trans (hO.below HB.out.hr HB.out.b.size), AE, AR, ce, cr, ?_, ?_⟩)
      · rw [HGA.out.2, HGA.out.1, HM.out]; rfl
      · rw [HGA.out.2]; exact refC_off (HX.out.1.below HB.out.b) hO HB.out.r HX.out.2.2
    | true =>
      obtain ⟨hu1, hu2⟩ := of_decide_eq_true HBU.out
      obtain ⟨hv1, hv2⟩ := of_decide_eq_true HBV.out
      obtain ⟨u, rfl⟩ := Int.eq_ofNat_of_zero_le hu1
      obtain ⟨v, rfl⟩ := Int.eq_ofNat_of_zero_le hv1
      obtain ⟨br, BR, cB, rfl, hrow, hcell⟩ := (HX.out.1.below HB.out.b).rs v (by omega)
      have hcell := hcell u (by omega)
      obtain ⟨rb, hrb⟩ : ∃ rb, rB (EA arcs) v u = rb := ⟨_, rfl⟩
      rw [hrb] at hcell
      have hcode : gcode n arcs u v = if rb = true then 110 else 0 := by
        unfold gcode
        rw [if_neg (by omega)]
        simp [hrb]
      have HRB := Lib.hid hcode
      clear HBU HBV hcode
      cases rb with
      | true =>
        have HGA := Lib.hid (show gcode n arcs u v = 110 ∧ garcs n arcs u v = arcs from by
          have hc := HRB.out
          rw [if_pos rfl] at hc
          exact ⟨hc, by unfold garcs; rw [hc]; rfl⟩)
        clear HRB
        have f0 := HB.out.r.free 0
        have d0 := HB.out.r.cell 0 rfl
        have f1 := HB.out.r.free 1
        have d1 := HB.out.r.cell 1 rfl
        have f2 := HB.out.r.free 2
        have d2 := HB.out.r.cell 2 rfl
        have f3 := HB.out.r.free 3
        have d3 := HB.out.r.cell 3 rfl
        have f4 := HB.out.r.free 4
        have d4 := HB.out.r.cell 4 rfl
        have f5 := HB.out.r.free 5
        have d5 := HB.out.r.cell 5 rfl
        have f6 := HB.out.r.free 6
        have d6 := HB.out.r.cell 6 rfl
        go_wp2
        (try simp only [Exit.inBlock, Exit.then])
        refine cover_ret _ _ HB.out.r rfl rfl (fun hO => ⟨HB.out.b.trans (hO.below HB.out.hr HB.out.b.size), AE, some ⟨br, 0, none⟩, ce, cr, ?_, ?_⟩)
        · rw [HGA.out.2, HGA.out.1, HM.out]; rfl
        · rw [HGA.out.2]; exact refC_off (HX.out.1.below HB.out.b) hO HB.out.r HX.out.2.2
      | false =>
        have HGA := Lib.hid (show gcode n arcs u v = 0 ∧ garcs n arcs u v = arcs ++ [((u : Int), (v : Int))] from by
          have hc := HRB.out
          rw [if_neg (by simp)] at hc
          exact ⟨hc, by unfold garcs; rw [hc, if_pos rfl]⟩)
        clear HRB
        obtain ⟨xs, hxs⟩ := edD_ex _ arcs rfl
        have hsrc : ∀ W, Below w.heap.size w W → RdW W (.slice AE m ce) m 4 xs := fun W hW => rdw_edges hxs (HX.out.1.es.below hW) (HX.out.1.ex.below hW) HM.out
        have HXS := Lib.hid (And.intro hxs hsrc)
        clear hxs hsrc
        go_upto_region 5 with (fail)
        clear hrow hcell hrb
        have gl := HB.out.x.lt
        have gn0 : gx ≠ w3.heap.size := Nat.ne_of_lt gl
        have gn1 : gx ≠ w3.heap.size + 1 := by omega
        have e4 : ∀ z : Int, z = (m : Int) + 1 → wrap64 z = z := fun z hz => by subst hz; unfold wrap64; omega
        refine start_ (n := 18) (S := fun w' => w'.cell? ⟨gx, 1, none⟩ = some (.slice AE m ce)) (ds := [17]) (bA 18 0) (by kernel_rfl) rfl rfl (q1) (fun hHeld => ?_)
        refine with_tabW tb18_5.tab5 tb18_5.bits5 (fun HT_ HW_ => ?_)
        refine pure_ (i := 1) (N := some 29) (v := ?_) (a' := ?_) (bA 18 2) rfl rfl (any_of HT_.out (by kernel_rfl)) (fun _ _ _ h => h) (Or.inl ⟨by rfl, ?_⟩) ?_ ?_
        rotate_left; · intro w'; go_simp; with_reducible rfl
        rotate_left; · simp only [Act.put, pA, pB, pC, pD, pE]; rfl
        refine pure_ (i := 2) (N := some 30) (v := ?_) (a' := ?_) (bA 18 6) rfl rfl (any_of HT_.out (by kernel_rfl)) (fun _ _ _ h => h) (Or.inl ⟨by rfl, ?_⟩) ?_ ?_
        rotate_left; · intro w'; go_simp; with_reducible rfl
        rotate_left; · simp only [Act.put, pA, pB, pC, pD, pE]; rfl
        refine pure_ (i := 5) (N := some 33) (v := ?_) (a' := ?_) (bA 18 38) rfl rfl (any_of HT_.out (by kernel_rfl)) (fun _ _ _ h => h) (Or.inl ⟨by rfl, ?_⟩) ?_ ?_
        rotate_left; · intro w'; go_simp; with_reducible rfl
        rotate_left; · simp only [Act.put, pA, pB, pC, pD, pE]; rfl
        refine pure_ (i := 6) (N := some 34) (v := ?_) (a' := ?_) (bA 18 102) rfl rfl (any_of HT_.out (by kernel_rfl)) (fun _ _ _ h => h) (Or.inl ⟨by rfl, ?_⟩) ?_ ?_
        rotate_left; · intro w'; go_simp; with_reducible rfl
        rotate_left; · simp only [Act.put, pA, pB, pC, pD, pE]; rfl
        refine pure_ (i := 10) (N := some 38) (v := ?_) (a' := ?_) (bA 18 1126) rfl rfl (any_of HT_.out (by kernel_rfl)) (fun _ _ _ h => h) (Or.inl ⟨by rfl, ?_⟩) ?_ ?_
        rotate_left; · intro w'; go_simp; with_reducible rfl
        rotate_left; · simp only [Act.put, pA, pB, pC, pD, pE]; rfl
        refine pure_ (i := 11) (N := some 39) (v := ?_) (a' := ?_) (bA 18 3174) rfl rfl (any_of HT_.out (by kernel_rfl)) (fun _ _ _ h => h) (Or.inl ⟨by rfl, ?_⟩) ?_ ?_
        rotate_left; · intro w'; go_simp; with_reducible rfl
        rotate_left; · simp only [Act.put, pA, pB, pC, pD, pE]; rfl
        refine take_ (i := 3) (N := some 31) (v := ?_) (a' := ?_) (bA 18 3182) rfl rfl (take_ofW HT_.out HW_.out (by kernel_rfl)) (fun _ _ _ h => h) (Or.inl ⟨by rfl, ?_⟩) hHeld ?_ ?_
        rotate_left
        · intro w' s0
          go_simp; with_reducible rfl
        rotate_left; · simp only [Act.put, pA, pB, pC, pD, pE]; rfl
        refine take_ (i := 7) (N := some 35) (v := ?_) (a' := ?_) (bA 18 3310) rfl rfl (take_ofW HT_.out HW_.out (by kernel_rfl)) (fun _ _ _ h => h) (Or.inl ⟨by rfl, ?_⟩) hHeld ?_ ?_
        rotate_left
        · intro w' s0
          go_simp; with_reducible rfl
        rotate_left; · simp only [Act.put, pA, pB, pC, pD, pE]; rfl
        refine pure_ (i := 8) (N := some 36) (v := ?_) (a' := ?_) (bA 18 3566) rfl rfl (any_of HT_.out (by kernel_rfl)) (fun _ _ _ h => h) (Or.inl ⟨by rfl, ?_⟩) ?_ ?_
        rotate_left; · intro w'; go_simp; with_reducible rfl
        rotate_left; · simp only [Act.put, pA, pB, pC, pD, pE]; rfl
        refine pure_ (i := 9) (N := some 37) (v := ?_) (a' := ?_) (bA 18 4078) rfl rfl (any_of HT_.out (by kernel_rfl)) (fun _ _ _ h => h) (Or.inl ⟨by rfl, ?_⟩) ?_ ?_
        rotate_left; · intro w'; go_simp; with_reducible rfl
        rotate_left; · simp only [Act.put, pA, pB, pC, pD, pE]; rfl
        refine pure_ (i := 12) (N := some 40) (v := ?_) (a' := ?_) (bA 18 8174) rfl rfl (any_of HT_.out (by kernel_rfl)) (fun _ _ _ h => h) (Or.inl ⟨by rfl, ?_⟩) ?_ ?_
        rotate_left; · intro w'; go_simp; with_reducible rfl
        rotate_left; · simp only [Act.put, pA, pB, pC, pD, pE]; rfl
        refine join_ (σ := Value × Value × Value) 4 (bA 18 16383) (fun s => [(28, s.1), (32, s.2.1), (41, s.2.2)]) (fun s w' => GF w gr gx [.slice A n c, .slice AE m ce, .int .i64 0, .int .i64 0, .slice AP n cp, .slice AQ n cq, .slice (some ⟨br, 0, none⟩) n cr] m xs [.int .i64 ((m : Int) + 1), .int .i64 (u : Int), .int .i64 (v : Int), .int .u32 0] s.2.1 s.2.2 w') ?_ ?_
        rotate_left
        · intro hCont
          refine two_ (i := 0) (j := 13) (Ni := some 28) (Nj := some 41) (bA 18 8175) (bA 18 16366) rfl rfl rfl rfl (two_of HT_.out (by kernel_rfl)) (by decide) (by decide) (fun K hK => ?_) (fun K hK => ?_)
          · skip
            refine value_ (w1 := ?_) (v := ?_) (by rfl) rfl ?_ ?_
            rotate_left 2
            · go_simp
              constructor
              · rfl
              · rfl
            have HG0 := Lib.hid (GE.start (B := w3.heap.size) HB.out.drew rfl)
            refine hK.out _ _ ((HG0.out.b.x.cell 1 rfl)) (fun hHeld => ?_)
            clear hK K
            refine norm_ (a' := ?_) ?_ ?_
            rotate_left
            · show Act.put _ (some 28) _ = _
              simp only [Act.put, pA, pB, pC, pD, pE]; rfl
            refine two_ (i := 4) (j := 13) (Ni := some 32) (Nj := some 41) (bA 18 8191) (bA 18 16367) rfl rfl rfl rfl (two_of HT_.out (by kernel_rfl)) (by decide) (by decide) (fun K hK => ?_) (fun K hK => ?_)
            · skip
              refine step_append_w rfl (.tmp 28) (.tmp 31) 25 rfl _ 36 i4 (.agg #[.int .i64 0, .int .i64 0, .int .i64 0, .int .u32 0]) 4 32 Try.underlying25 hi4 hz4 hs4 hy4 rfl (by omega) _ _ _ rfl HG0.out.o _ rfl m xs (HXS.out.2 _ HG0.out.b.b) (by unfold maxLen; omega) (by omega) HG0.out.s ?_
              intro v5 w5 ho hg
              rw [Nat.zero_add, List.nil_append] at ho
              have HG5 := Lib.hid (HG0.out.grow ho hg)
              clear ho hg HG0
              refine hK.out _ _ ((HG5.out.b.x.cell 1 rfl)) (fun hHeld => ?_)
              clear hK K
              refine norm_ (a' := ?_) ?_ ?_
              rotate_left
              · show Act.put _ (some 32) _ = _
                simp only [Act.put, pA, pB, pC, pD, pE]; rfl
              refine one_ (i := 13) (N := some 41) (bA 18 16383) rfl rfl (one_of HT_.out (by kernel_rfl)) (by decide) (fun K hK => ?_)
              refine value_ (w1 := ?_) (v := ?_) (by rfl) rfl ?_ ?_
              rotate_left 2
              · go_simp
                constructor
                · rfl
                · rfl
              have HG5 := Lib.hid (HG5.out.al (.cells #[.int .i64 ((m : Int) + 1), .int .i64 (u : Int), .int .i64 (v : Int), .int .u32 0] 36))
              have HL := Lib.hid (At.made (w := w5) (a := #[.int .i64 ((m : Int) + 1), .int .i64 (u : Int), .int .i64 (v : Int), .int .u32 0]) (T := 36) (cs := [.int .i64 ((m : Int) + 1), .int .i64 (u : Int), .int .i64 (v : Int), .int .u32 0]) rfl rfl)
              refine hK.out _ _ ((HG5.out.b.x.cell 1 rfl)) (fun hHeld => ?_)
              clear hK K
              refine norm_ (a' := ?_) ?_ ?_
              rotate_left
              · show Act.put _ (some 41) _ = _
                simp only [Act.put, pA, pB, pC, pD, pE]; rfl
              exact norm_ (by simp only [putAll, Act.put, List.setIfInBounds_toArray, List.set_cons_zero, List.set_cons_succ]) (hCont (.slice (some ⟨w3.heap.size, 0, none⟩) 0 0, v5, .slice (some ⟨w5.heap.size, 0, none⟩) 1 1) _ ⟨_, _, HG5.out, by simp, HL.out⟩)
            · skip
              refine value_ (w1 := ?_) (v := ?_) (by rfl) rfl ?_ ?_
              rotate_left 2
              · go_simp
                constructor
                · rfl
                · rfl
              have HG0 := Lib.hid (HG0.out.al (.cells #[.int .i64 ((m : Int) + 1), .int .i64 (u : Int), .int .i64 (v : Int), .int .u32 0] 36))
              have HL := Lib.hid (At.made (w := w3.drew.alloc (.cells #[] 36)) (a := #[.int .i64 ((m : Int) + 1), .int .i64 (u : Int), .int .i64 (v : Int), .int .u32 0]) (T := 36) (cs := [.int .i64 ((m : Int) + 1), .int .i64 (u : Int), .int .i64 (v : Int), .int .u32 0]) rfl rfl)
              refine hK.out _ _ ((HG0.out.b.x.cell 1 rfl)) (fun hHeld => ?_)
              clear hK K
              refine norm_ (a' := ?_) ?_ ?_
              rotate_left
              · show Act.put _ (some 41) _ = _
                simp only [Act.put, pA, pB, pC, pD, pE]; rfl
              refine one_ (i := 4) (N := some 32) (bA 18 16383) rfl rfl (one_of HT_.out (by kernel_rfl)) (by decide) (fun K hK => ?_)
              refine step_append_w rfl (.tmp 28) (.tmp 31) 25 rfl _ 36 i4 (.agg #[.int .i64 0, .int .i64 0, .int .i64 0, .int .u32 0]) 4 32 Try.underlying25 hi4 hz4 hs4 hy4 rfl (by omega) _ _ _ rfl HG0.out.o _ rfl m xs (HXS.out.2 _ HG0.out.b.b) (by unfold maxLen; omega) (by omega) HG0.out.s ?_
              intro v5 w5 ho hg
              rw [Nat.zero_add, List.nil_append] at ho
              have HG5 := Lib.hid (HG0.out.grow ho hg)
              have hg2 : World.grownBy _ w5 (some (w3.heap.size)) := hg
              have HL := Lib.hid (HL.out.grown hg2 (by simp))
              clear hg2; clear ho hg HG0
              refine hK.out _ _ ((HG5.out.b.x.cell 1 rfl)) (fun hHeld => ?_)
              clear hK K
              refine norm_ (a' := ?_) ?_ ?_
              rotate_left
              · show Act.put _ (some 32) _ = _
                simp only [Act.put, pA, pB, pC, pD, pE]; rfl
              exact norm_ (by simp only [putAll, Act.put, List.setIfInBounds_toArray, List.set_cons_zero, List.set_cons_succ]) (hCont (.slice (some ⟨w3.heap.size, 0, none⟩) 0 0, v5, .slice (some ⟨w3.heap.size + 1, 0, none⟩) 1 1) _ ⟨_, _, HG5.out, by simp, HL.out⟩)
          · skip
            refine value_ (w1 := ?_) (v := ?_) (by rfl) rfl ?_ ?_
            rotate_left 2
            · go_simp
              constructor
              · rfl
              · rfl
            have HL := Lib.hid (At.made (w := w3.drew) (a := #[.int .i64 ((m : Int) + 1), .int .i64 (u : Int), .int .i64 (v : Int), .int .u32 0]) (T := 36) (cs := [.int .i64 ((m : Int) + 1), .int .i64 (u : Int), .int .i64 (v : Int), .int .u32 0]) rfl rfl)
            refine hK.out _ _ (((HB.out.drew.al (o := (.cells #[.int .i64 ((m : Int) + 1), .int .i64 (u : Int), .int .i64 (v : Int), .int .u32 0] 36))).x.cell 1 rfl)) (fun hHeld => ?_)
            clear hK K
            refine norm_ (a' := ?_) ?_ ?_
            rotate_left
            · show Act.put _ (some 41) _ = _
              simp only [Act.put, pA, pB, pC, pD, pE]; rfl
            refine one_ (i := 0) (N := some 28) (bA 18 16367) rfl rfl (one_of HT_.out (by kernel_rfl)) (by decide) (fun K hK => ?_)
            refine value_ (w1 := ?_) (v := ?_) (by rfl) rfl ?_ ?_
            rotate_left 2
            · go_simp
              constructor
              · rfl
              · rfl
            have HG0 := Lib.hid (GE.start (B := w3.heap.size + 1) (HB.out.drew.al (o := (.cells #[.int .i64 ((m : Int) + 1), .int .i64 (u : Int), .int .i64 (v : Int), .int .u32 0] 36))) (by simp))
            have HL := Lib.hid (HL.out.al (o := (.cells #[] 36)))
            refine hK.out _ _ ((HG0.out.b.x.cell 1 rfl)) (fun hHeld => ?_)
            clear hK K
            refine norm_ (a' := ?_) ?_ ?_
            rotate_left
            · show Act.put _ (some 28) _ = _
              simp only [Act.put, pA, pB, pC, pD, pE]; rfl
            refine one_ (i := 4) (N := some 32) (bA 18 16383) rfl rfl (one_of HT_.out (by kernel_rfl)) (by decide) (fun K hK => ?_)
            refine step_append_w rfl (.tmp 28) (.tmp 31) 25 rfl _ 36 i4 (.agg #[.int .i64 0, .int .i64 0, .int .i64 0, .int .u32 0]) 4 32 Try.underlying25 hi4 hz4 hs4 hy4 rfl (by omega) _ _ _ rfl HG0.out.o _ rfl m xs (HXS.out.2 _ HG0.out.b.b) (by unfold maxLen; omega) (by omega) HG0.out.s ?_
            intro v5 w5 ho hg
            rw [Nat.zero_add, List.nil_append] at ho
            have HG5 := Lib.hid (HG0.out.grow ho hg)
            have hg2 : World.grownBy _ w5 (some (w3.heap.size + 1)) := hg
            have HL := Lib.hid (HL.out.grown hg2 (by simp))
            clear hg2; clear ho hg HG0
            refine hK.out _ _ ((HG5.out.b.x.cell 1 rfl)) (fun hHeld => ?_)
            clear hK K
            refine norm_ (a' := ?_) ?_ ?_
            rotate_left
            · show Act.put _ (some 32) _ = _
              simp only [Act.put, pA, pB, pC, pD, pE]; rfl
            exact norm_ (by simp only [putAll, Act.put, List.setIfInBounds_toArray, List.set_cons_zero, List.set_cons_succ]) (hCont (.slice (some ⟨w3.heap.size + 1, 0, none⟩) 0 0, v5, .slice (some ⟨w3.heap.size, 0, none⟩) 1 1) _ ⟨_, _, HG5.out, by simp, HL.out⟩)
        rintro ⟨s1, s2, s3⟩ wc ⟨B, gl, hge, h3, hat⟩
        dsimp only at hge h3
        subst h3
        have HG := Lib.hid hge
        have HL := Lib.hid hat
        have hHeld := True.intro
        clear hge hat
        refine norm_ (a' := ?_) ?_ ?_
        rotate_left; · simp only [putAll, Act.put, List.setIfInBounds_toArray, List.set_cons_zero, List.set_cons_succ]; rfl
        refine one_ (i := 14) (N := some 42) (bA 18 32767) rfl rfl (one_of HT_.out (by kernel_rfl)) (by decide) (fun K hK => ?_)
        refine step_append_w rfl (.tmp 32) (.tmp 41) 25 rfl _ 36 i4 (.agg #[.int .i64 0, .int .i64 0, .int .i64 0, .int .u32 0]) 4 32 Try.underlying25 hi4 hz4 hs4 hy4 rfl (by omega) _ _ _ rfl HG.out.o _ rfl 1 [.int .i64 ((m : Int) + 1), .int .i64 (u : Int), .int .i64 (v : Int), .int .u32 0] (.inl (rdV_at HL.out rfl (by simp [Value.oneCell']))) (by unfold maxLen; omega) (by omega) HG.out.s ?_
        intro v6 w6 ho hg
        have HG6 := Lib.hid (HG.out.grow ho hg)
        obtain ⟨A6, c6, rfl⟩ := Lw.own_slice ho
        have hs14 := HG6.out.b.x.cell 1 rfl
        have hf14 := HG6.out.b.x.free 1
        clear ho hg HG HL
        refine hK.out _ _ ((HG6.out.b.x.cell 1 rfl)) (fun hHeld => ?_)
        clear hK K
        refine norm_ (a' := ?_) ?_ ?_
        rotate_left
        · show Act.put _ (some 42) _ = _
          simp only [Act.put, pA, pB, pC, pD, pE]; rfl
        refine pure_ (i := 15) (N := some 43) (v := ?_) (a' := ?_) (bA 18 65535) rfl rfl (any_of HT_.out (by kernel_rfl)) (fun _ _ _ h => h) (Or.inl ⟨by rfl, ?_⟩) ?_ ?_
        rotate_left; · intro w'; go_simp; with_reducible rfl
        rotate_left; · simp only [Act.put, pA, pB, pC, pD, pE]; rfl
        refine pure_ (i := 16) (N := some 44) (v := ?_) (a' := ?_) (bA 18 131071) rfl rfl (any_of HT_.out (by kernel_rfl)) (fun _ _ _ h => h) (Or.inl ⟨by rfl, ?_⟩) ?_ ?_
        rotate_left; · intro w'; go_simp; with_reducible rfl
        rotate_left; · simp only [Act.put, pA, pB, pC, pD, pE]; rfl
        refine last_ (i := 17) (N := none) (bA 18 262143) rfl rfl (one_of HT_.out (by kernel_rfl)) (by decide) (fun K hK => ?_)
        refine skip_ (w1 := ?_) (by rfl) rfl ?_ ?_
        rotate_left; · go_simp; rfl
        refine hK.out _ _ ?_; clear hK K
        refine done_ (done_of HT_.out (by kernel_rfl)) ?_
        clear hHeld HT_ HW_
        have hgd := good_snoc HX.out.2.1 (show u < n by omega) (show v < n by omega)
        obtain ⟨R, hR⟩ : ∃ R, arcs ++ [((u : Int), (v : Int))] = R := ⟨_, rfl⟩
        have hRl : R.length = m + 1 := by rw [← hR, List.length_append, HM.out]; rfl
        have hed := HXS.out.1.snoc (u := (u : Int)) (v := (v : Int)) HM.out
        rw [hR] at hgd hed HGA
        obtain ⟨xs2, hxs2⟩ : ∃ xs2, xs ++ [.int .i64 ((m : Int) + 1), .int .i64 (u : Int), .int .i64 (v : Int), .int .u32 0] = xs2 := ⟨_, rfl⟩
        rw [hxs2] at hed HG6
        refine gen_then (fun W => BS w gr gx [.slice A n c, .slice A6 (m + 1) c6, .int .i64 0, .int .i64 0, .slice AP n cp, .slice AQ n cq, .slice (some ⟨br, 0, none⟩) n cr] W ∧ W.ownsRow B 36 4 (.slice A6 (m + 1) c6) (m + 1) xs2) ?_ ?_
        · exact ⟨HG6.out.b.put 1 _, own_beside HG6.out.o HG6.out.b.x (by decide)⟩
        clear HG6 hs14 hf14 q0 q1 q2 q3 q4 q5 q6 e4 hR hxs2
        rintro w7 ⟨hB7, ho7⟩
        have hcl := closure_calls w7 A A6 c c6 (rng n) R (HX.out.1.vs.below hB7.b) (RdE.of_own ho7 hed.1 hRl.symm) (rng_lt n) (good_rng.2 hgd) (by rw [rng_length]; omega) (by omega)
        rw [rng_length, hRl, PE_rng' hgd] at hcl
        unfold gV at hcl
        have HCL := Lib.hid hcl
        have HB := Lib.hid hB7
        have HE := Lib.hid (And.intro ho7 (And.intro hed hRl))
        clear hcl hB7 ho7 hed hRl hgd
        have q0 := HB.out.x.cell 0 rfl
        have q1 := HB.out.x.cell 1 rfl
        have q2 := HB.out.x.cell 2 rfl
        have q3 := HB.out.x.cell 3 rfl
        go_wp2_with fail
        refine HCL.out.mono ?_
        clear HCL q0 q1 q2 q3
        rintro e w8 ⟨A8, c8, rfl, hrc, hb8⟩
        have hB8 := HB.out.below hb8
        have ho8 := Lw.own_below HE.out.1 hb8
        have qs := hB8.x.cell 6 rfl
        have qf := hB8.x.free 6
        have HB := Lib.hid hB8
        have H8 := Lib.hid (And.intro ho8 hrc)
        clear hB8 ho8 hrc hb8
        go_upto_region 7 with (fail)
        refine gen_world (fun W => BS w gr gx [.slice A n c, .slice A6 (m + 1) c6, .int .i64 0, .int .i64 0, .slice AP n cp, .slice AQ n cq, .slice A8 n c8] W ∧ RefC W n A A6 AP AQ A8 R pars posts (EA R)) ?_ ?_
        · have hbs := HB.out.put 6 (.slice A8 n c8)
          have how := own_beside (i := 6) (u := .slice A8 n c8) H8.out.1 HB.out.x (by decide)
          refine ⟨hbs, HX.out.1.vs.below hbs.b, RdE.of_own how HE.out.2.1.1 HE.out.2.2.symm, RdX.of_own how HE.out.2.1 HE.out.2.2.symm, HX.out.1.ps.below hbs.b, HX.out.1.qs.below hbs.b, ?_⟩
          refine ((Off.refl gx w8).set 6 (.slice A8 n c8)).rdC H8.out.2 HB.out.x (fun y hy => by simp at hy) (fun hn b hb => ?_)
          rintro rfl
          obtain ⟨b', B', cB', e1, e2, e3⟩ := H8.out.2 0 hn
          rw [e1] at hb
          cases hb
          rw [HB.out.x.cell 0 rfl] at e2
          simp only [Option.some.injEq, Value.slice.injEq] at e2
          obtain ⟨rfl, _, rfl⟩ := e2
          obtain ⟨b2, e4, e5⟩ := (HX.out.1.vs.below HB.out.b) 0 _ (rng_at hn)
          cases e4
          rw [e3 0 hn] at e5
          cases e5
        clear qs qf HB H8
        rintro w9 ⟨hB9, hr9⟩
        have HB := Lib.hid hB9
        have HR := Lib.hid hr9
        clear hB9 hr9
        have q0 := HB.out.x.cell 0 rfl
        have q1 := HB.out.x.cell 1 rfl
        have q2 := HB.out.x.cell 2 rfl
        have q3 := HB.out.x.cell 3 rfl
        have q4 := HB.out.x.cell 4 rfl
        have q5 := HB.out.x.cell 5 rfl
        have q6 := HB.out.x.cell 6 rfl
        have f0 := HB.out.r.free 0
        have d0 := HB.out.r.cell 0 rfl
        have f1 := HB.out.r.free 1
        have d1 := HB.out.r.cell 1 rfl
        have f2 := HB.out.r.free 2
        have d2 := HB.out.r.cell 2 rfl
        have f3 := HB.out.r.free 3
        have d3 := HB.out.r.cell 3 rfl
        have f4 := HB.out.r.free 4
        have d4 := HB.out.r.cell 4 rfl
        have f5 := HB.out.r.free 5
        have d5 := HB.out.r.cell 5 rfl
        have f6 := HB.out.r.free 6
        have d6 := HB.out.r.cell 6 rfl
        go_wp2
        (try simp only [Exit.inBlock, Exit.then])
        refine cover_ret _ _ HB.out.r rfl rfl (fun hO => ⟨HB.out.b.trans (hO.below HB.out.hr HB.out.b.size), A6, A8, c6, c8, ?_, ?_⟩)
        · rw [HGA.out.2, HGA.out.1, HE.out.2.2]; rfl
        · rw [HGA.out.2]; exact refC_off HR.out hO HB.out.r HX.out.2.2
end Go.Proofs.Ytdohfjidnbhfnaa.Lc

/- CoverAgain, walked. -/
namespace Go.Proofs.Ytdohfjidnbhfnaa.Lc
open Go Go.RowKit Go.Proofs.Ytdohfjidnbhfnaa.Mem Go.Proofs.Ytdohfjidnbhfnaa.Sl Go.Proofs.Ytdohfjidnbhfnaa.Scc Go.Proofs.Ytdohfjidnbhfnaa.Tj Go.Proofs.Ytdohfjidnbhfnaa.Lw Go.Proofs.Ytdohfjidnbhfnaa.Cv Go.Proofs.Ytdohfjidnbhfnaa.Rb Go.Proofs.YtdohfjidnbhfnaaW.PrintWords Go.Proofs.YtdohfjidnbhfnaaW.PrintLast
attribute [local go_sem ↓] Go.wp_at_zero Go.wp_at_succ
set_option linter.unusedSimpArgs false
set_option linter.unusedVariables false

theorem own_kpt {W W' : World} {p : Nat → Prop} {B s n : Nat} {e : TypeId} {v : Value} {xs : List Value} (h : W.ownsRow B e s v n xs) (hk : Kpt p W W') (hp : ∀ g cs, At W g cs e → ¬ p g) : W'.ownsRow B e s v n xs := by
  refine ⟨h.1, ?_⟩
  rcases h.2 with h0 | ⟨g, cap, cur, rfl, hb, r⟩
  · exact .inl h0
  · obtain ⟨cs, hat⟩ := own_at h
    have he := hk.block g hat.lt (hp g cs hat)
    refine .inr ⟨g, cap, cur, rfl, hb, ?_⟩
    rw [he]
    exact r
theorem two_kpt {w W W' : World} {e1 e2 : TypeId} {s1 s2 n1 n2 : Nat} {v1 v2 : Value} {x1 x2 : List Value} {nd : List Nd} {L : List (List (Int × Int))} (h : Two w e1 s1 v1 n1 x1 e2 s2 v2 n2 x2 W) (hl : LabS W nd L) (hg : ∀ k, LabB nd k → w.heap.size ≤ k) (hk : Kpt (LabB nd) W W') (t1 : e1 ≠ 108) (t2 : e2 ≠ 108) : Two w e1 s1 v1 n1 x1 e2 s2 v2 n2 x2 W' :=
  ⟨own_kpt h.r1 hk (fun g cs ha => hl.not ha t1), own_kpt h.r2 hk (fun g cs ha => hl.not ha t2), h.ne, h.b.trans (hk.to_below fun k hk2 => ⟨Nat.lt_of_lt_of_le hk2 h.b.size, fun hh => by have := hg k hh; omega⟩)⟩

theorem Kn.kpt {w0 w w' : World} {gc n gn ga : Nat} {a0 arcs : List (Int × Int)} {nd : List Nd} {al : List Int} {L : Nat → List (Int × Int)} {rk : Nat → Nat} {p : Nat → Prop} (h : Kn w0 w gc n a0 arcs gn ga nd al L rk) (hk : Kpt p w w')
    (hp : ∀ g cs T, At w g cs T → T ≠ 38 → ¬ p g) : Kn w0 w' gc n a0 arcs gn ga nd al L rk :=
  ⟨⟨h.c.c.kept hk (hp _ _ _ h.c.c.hc (by decide)) (hp _ _ _ h.c.c.hn (by decide)) (hp _ _ _ h.c.c.ha (by decide)), h.c.ok, ⟨fun v hv hs => by
    obtain ⟨x, g', e1, e2, e3, e4, e5⟩ := h.c.ls.sets v hv hs
    have e4' := e4
    obtain ⟨A', c', hat, _⟩ := e4'
    exact ⟨x, g', e1, e2, e3, e4.kept hk (hp _ _ _ hat (by decide)) (fun b cs hb => hp _ _ _ hb (by decide)), e5⟩, h.c.ls.inj⟩, h.c.al, h.c.g1, h.c.g2, h.c.g3⟩, h.r, h.le, h.a, h.g0, h.sub⟩
theorem Kn.grown {w0 w w' : World} {gc n gn ga : Nat} {a0 arcs : List (Int × Int)} {nd : List Nd} {al : List Int} {L : Nat → List (Int × Int)} {rk : Nat → Nat} (h : Kn w0 w gc n a0 arcs gn ga nd al L rk) {B s m : Nat} {v : Value} {xs : List Value} (ho : w.ownsRow B 38 s v m xs) (hg : w.grownBy w' v.ownBlock) : Kn w0 w' gc n a0 arcs gn ga nd al L rk :=
  h.kpt (p := fun k => some k = v.ownBlock) ((Kpt.refl _ w).grown hg (fun k hk _ => hk.symm)) (fun g cs T ha hT hh => own_off ho ha hT hh)
theorem garcs_len (n : Nat) (arcs : List (Int × Int)) (u v : Int) : (garcs n arcs u v).length ≤ arcs.length + 1 := by
  unfold garcs
  split
  · simp
  · omega
theorem gen_any {T : World → Prop} {w : World} (I : World → Prop) (h : I w) (k : ∀ W, I W → T W) : T w := k w h
end Go.Proofs.Ytdohfjidnbhfnaa.Lc
