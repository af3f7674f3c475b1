/- The laws of cover: what the reference's rows keep where a label or a cell changes. -/
import Derived.Test.YtdohfjidnbhfnaaGg39
import Derived.Test.YtdohfjidnbhfnaaGg37
namespace Go.Proofs.Ytdohfjidnbhfnaa.Lc
open Go Go.RowKit Go.Proofs.Ytdohfjidnbhfnaa.Mem Go.Proofs.Ytdohfjidnbhfnaa.Sl Go.Proofs.Ytdohfjidnbhfnaa.Scc Go.Proofs.Ytdohfjidnbhfnaa.Tj Go.Proofs.Ytdohfjidnbhfnaa.Lw Go.Proofs.Ytdohfjidnbhfnaa.Cv Go.Proofs.Ytdohfjidnbhfnaa.Rb Go.Proofs.YtdohfjidnbhfnaaW.PrintWords Go.Proofs.YtdohfjidnbhfnaaW.PrintLast
set_option linter.unusedSimpArgs false
set_option linter.unusedVariables false

structure NoNum (w : World) (k : Nat) : Prop where
  c0 : ∀ x, w.cell? ⟨k, 0, none⟩ ≠ some (.int .i64 x)
  c1 : ∀ x, w.cell? ⟨k, 1, none⟩ ≠ some (.int .i64 x)
  bo : ∀ i y, w.cell? ⟨k, i, none⟩ ≠ some (.bool y)
section
variable {p : Nat → Prop} {w w' : World} {n : Nat} {A AE AP AQ AR : Option Addr} {arcs : List (Int × Int)} {pars posts : List Int} {E : Nat → Nat → Prop}
theorem kpt_cell (hk : Kpt p w w') {b i : Nat} {x : Value} (h : w.cell? ⟨b, i, none⟩ = some x) (hb : ¬ p b) : w'.cell? ⟨b, i, none⟩ = some x :=
  (World.cell?_of_block (w := w) (hk.block b (World.block_lt_of_cell? _ _ h) hb)).trans h
theorem rdI_kpt {l : List Int} (h : RdI w A l) (hk : Kpt p w w') (hp : ∀ k, p k → NoNum w k) : RdI w' A l := fun j x hx => by
  obtain ⟨b, e1, e2⟩ := h j x hx
  refine ⟨b, e1, kpt_cell hk e2 fun hb => ?_⟩
  have hlt := (List.getElem?_eq_some_iff.1 hx).1
  obtain ⟨b', e3, e4⟩ := h 0 _ (List.getElem?_eq_getElem (by omega))
  rw [e1] at e3
  cases e3
  exact (hp _ hb).c0 _ e4
theorem rdE_kpt (h : RdE w A arcs) (hk : Kpt p w w') (hp : ∀ k, p k → NoNum w k) : RdE w' A arcs := fun j u v hx => by
  obtain ⟨b, e1, e2, e5⟩ := h j u v hx
  have hne : ¬ p b := fun hb => by
    have hlt := (List.getElem?_eq_some_iff.1 hx).1
    obtain ⟨⟨u', v'⟩, hy⟩ : ∃ y, arcs[0]? = some y := ⟨_, List.getElem?_eq_getElem (by omega)⟩
    obtain ⟨b', e3, e4, _⟩ := h 0 u' v' hy
    rw [e1] at e3
    cases e3
    exact (hp _ hb).c1 _ e4
  exact ⟨b, e1, kpt_cell hk e2 hne, kpt_cell hk e5 hne⟩
theorem rdX_kpt (h : RdX w A arcs) (he : RdE w A arcs) (hk : Kpt p w w') (hp : ∀ k, p k → NoNum w k) : RdX w' A arcs := fun j hj => by
  obtain ⟨b, e1, e2, e5⟩ := h j hj
  have hne : ¬ p b := fun hb => by
    obtain ⟨⟨u', v'⟩, hy⟩ : ∃ y, arcs[0]? = some y := ⟨_, List.getElem?_eq_getElem (by omega)⟩
    obtain ⟨b', e3, e4, _⟩ := he 0 u' v' hy
    rw [e1] at e3
    cases e3
    exact (hp _ hb).c1 _ e4
  exact ⟨b, e1, kpt_cell hk e2 hne, kpt_cell hk e5 hne⟩
theorem rdC_kpt (h : RdC w A n E) (hk : Kpt p w w') (hp : ∀ k, p k → NoNum w k) (hA : ∀ b, 0 < n → A = some ⟨b, 0, none⟩ → ¬ p b) : RdC w' A n E := fun i hi => by
  obtain ⟨b, B, cB, e1, e2, e3⟩ := h i hi
  exact ⟨b, B, cB, e1, kpt_cell hk e2 (hA b (by omega) e1), fun x hx => kpt_cell hk (e3 x hx) fun hb => (hp _ hb).bo _ _ (e3 x hx)⟩
theorem RefC.kpt (h : RefC w n A AE AP AQ AR arcs pars posts E) (hk : Kpt p w w') (hp : ∀ k, p k → NoNum w k) (hA : ∀ b, 0 < n → AR = some ⟨b, 0, none⟩ → ¬ p b) : RefC w' n A AE AP AQ AR arcs pars posts E :=
  ⟨rdI_kpt h.vs hk hp, rdE_kpt h.es hk hp, rdX_kpt h.ex h.es hk hp, rdI_kpt h.ps hk hp, rdI_kpt h.qs hk hp, rdC_kpt h.rs hk hp hA⟩
theorem RefC.labs {nd : List Nd} {L : List (List (Int × Int))} (h : RefC w n A AE AP AQ AR arcs pars posts E) (hl : LabS w nd L) (hk : Kpt (LabB nd) w w') : RefC w' n A AE AP AQ AR arcs pars posts E := by
  have hset : ∀ k, LabB nd k → ∃ A' c l, At w k [.slice A' (l : List (Int × Int)).length c] 108 ∧ Sp.RdR w A' l := fun k hk => by
    obtain ⟨x, hx, he⟩ := hk
    obtain ⟨i, hi⟩ := List.getElem?_of_mem hx
    have hlt := (List.getElem?_eq_some_iff.1 hi).1
    obtain ⟨g, e1, A', c, e2, e3⟩ := hl.sets i x _ hi (List.getElem?_eq_getElem (by rw [hl.len]; exact hlt))
    rw [he] at e1
    cases e1
    exact ⟨A', c, _, e2, e3⟩
  refine RefC.kpt h hk (fun k hb => ?_) (fun b hn hb hp => ?_)
  · obtain ⟨A', c, l, e2, e3⟩ := hset k hb
    refine ⟨fun x hx => ?_, fun x hx => ?_, fun i y hx => ?_⟩
    · rw [e2.cell?] at hx; cases hx
    · rw [e2.cell?] at hx; cases hx
    · rw [e2.cell?] at hx
      match i with
      | 0 => cases hx
      | i + 1 => simp at hx
  · obtain ⟨A', c, l, e2, e3⟩ := hset b hp
    obtain ⟨b', B, cB, f1, f2, f3⟩ := h.rs 0 hn
    rw [hb] at f1
    cases f1
    rw [e2.cell 0 rfl] at f2
    simp only [Option.some.injEq, Value.slice.injEq] at f2
    obtain ⟨rfl, hl0, rfl⟩ := f2
    obtain ⟨⟨u, v⟩, hy⟩ : ∃ y, l[0]? = some y := ⟨_, List.getElem?_eq_getElem (by omega)⟩
    obtain ⟨b2, cs, g1, g2, g3, _⟩ := e3 0 u v hy
    cases g1
    have := f3 0 hn
    rw [g2.cell?, g3] at this
    cases this
theorem RefC.cell {g : Nat} {c n2 ce m cp n3 cq n4 cr n5 : Nat} {B1 B2 B3 B4 B5 : Option Addr} (h : RefC w n A AE AP AQ AR arcs pars posts E) (hO : Off g w w') (hn : 1 ≤ n) (ha : At w g [.slice B1 n2 c, .slice B2 m ce, .int .i64 0, .int .i64 0, .slice B3 n3 cp, .slice B4 n4 cq, .slice B5 n5 cr] 30)
    (hB1 : B1 = A) : RefC w' n A AE AP AQ AR arcs pars posts E := by
  subst hB1
  refine RefC.kpt h (off_kpt hO) (fun k hb => ?_) (fun b hn hb hp => ?_)
  · subst hb
    refine ⟨fun x hx => ?_, fun x hx => ?_, fun i y hx => ?_⟩
    · rw [ha.cell 0 rfl] at hx; cases hx
    · rw [ha.cell 1 rfl] at hx; cases hx
    · rw [ha.cell?] at hx
      match i with
      | 0 | 1 | 2 | 3 | 4 | 5 | 6 => cases hx
      | i + 7 => simp at hx
  · subst hp
    obtain ⟨b', B, cB, f1, f2, f3⟩ := h.rs 0 hn
    rw [hb] at f1
    cases f1
    rw [ha.cell 0 rfl] at f2
    simp only [Option.some.injEq, Value.slice.injEq] at f2
    obtain ⟨rfl, _, rfl⟩ := f2
    obtain ⟨b2, e4, e5⟩ := h.vs 0 _ (rng_at hn)
    cases e4
    rw [f3 0 hn] at e5
    cases e5
end
end Go.Proofs.Ytdohfjidnbhfnaa.Lc

/- CoverGrows, walked. -/
namespace Go.Proofs.Ytdohfjidnbhfnaa.Lc
open Go Go.RowKit Go.Proofs.Ytdohfjidnbhfnaa.Mem Go.Proofs.Ytdohfjidnbhfnaa.Sl Go.Proofs.Ytdohfjidnbhfnaa.Scc Go.Proofs.Ytdohfjidnbhfnaa.Tj Go.Proofs.Ytdohfjidnbhfnaa.Lw Go.Proofs.Ytdohfjidnbhfnaa.Cv Go.Proofs.Ytdohfjidnbhfnaa.Rb Go.Proofs.YtdohfjidnbhfnaaW.PrintWords Go.Proofs.YtdohfjidnbhfnaaW.PrintLast
attribute [local go_sem ↓] Go.wp_at_zero Go.wp_at_succ
set_option linter.unusedSimpArgs false
set_option linter.unusedVariables false

structure GS (w : World) (gc nn gn ga g8 : Nat) (l all : List (Int × Int)) (nd : List Nd) (al : List Int) (L : Nat → List (Int × Int)) (rk : Nat → Nat) (A AE AP AQ AR : Option Addr) (c ce cp cq cr : Nat) (vm : Value) (M : List (Int × Int)) (W : World) : Prop where
  k : Kn w W gc nn l all gn ga nd al L rk
  r : RefC W nn A AE AP AQ AR all (parsOf nn l) (postsOf nn (parsOf nn l)) (EA all)
  x : At W g8 [.slice A nn c, .slice AE all.length ce, .int .i64 0, .int .i64 0, .slice AP nn cp, .slice AQ nn cq, .slice AR nn cr] 30
  t : Two w 38 2 (.slice none 0 0) 0 [] 38 2 vm M.length (arcs2 M) W
section
variable {w W W' : World} {gc nn gn ga g8 : Nat} {l all : List (Int × Int)} {nd : List Nd} {al : List Int} {L : Nat → List (Int × Int)} {rk : Nat → Nat} {A AE AP AQ AR : Option Addr} {c ce cp cq cr : Nat} {vm : Value} {M : List (Int × Int)}
theorem GS.below (h : GS w gc nn gn ga g8 l all nd al L rk A AE AP AQ AR c ce cp cq cr vm M W) (hb : Below W.heap.size W W') : GS w gc nn gn ga g8 l all nd al L rk A AE AP AQ AR c ce cp cq cr vm M W' :=
  ⟨h.k.below hb, h.r.below hb, h.x.below hb h.x.lt, h.t.below hb⟩
theorem GS.put (h : GS w gc nn gn ga g8 l all nd al L rk A AE AP AQ AR c ce cp cq cr vm M W) (h1 : 1 ≤ nn) (h8 : w.heap.size ≤ g8) {all2 : List (Int × Int)} {AE2 AR2 : Option Addr} (hr : RefC W nn A AE2 AP AQ AR2 all2 (parsOf nn l) (postsOf nn (parsOf nn l)) (EA all2)) (hO : Off g8 W W') :
    Kn w W' gc nn l all gn ga nd al L rk ∧ RefC W' nn A AE2 AP AQ AR2 all2 (parsOf nn l) (postsOf nn (parsOf nn l)) (EA all2) ∧ Two w 38 2 (.slice none 0 0) 0 [] 38 2 vm M.length (arcs2 M) W' :=
  ⟨h.k.off hO h.x (by decide) (by decide) (by decide) (by decide) (by decide), RefC.cell hr hO h1 h.x rfl, World.ownsRow_nil _ _ _ _, hO.ownT h.t.r2 h.x (by decide), fun k h1 => by simp [Value.ownBlock] at h1, h.t.b.trans (hO.below h8 h.t.b.size)⟩
end


set_option maxHeartbeats 16000000 in
set_option maxRecDepth 100000 in
theorem grows_calls (w : World) (n : Int) (a1 a2 : Value) (arcs more : List (Int × Int)) (h1 : ArgV w a1 arcs.length 2 (arcs2 arcs)) (h2 : ArgV w a2 more.length 2 (arcs2 more)) :
    Calls Try.prog 6 #[.int .i64 n, a1, a2] w fun e w' => e = .returned (.bool true) ∧ Below w.heap.size w w' := by
  have HB := Lib.hid (built_calls w n a1 arcs h1)
  have H2 := Lib.hid h2
  clear h1 h2
  go_enter Try.func6, Try.ntmps6
  go_wp2_with fail
  refine HB.out.mono ?_
  clear HB
  rintro e w1 ⟨nn, l, gc, gn, ga, nd, al, L, rk, A, AE, AP, AQ, AR, c, ce, cp, cq, cr, hn1, hn2, rfl, hup, hln, hK, hR, hb⟩
  unfold cV
  have HK1 := Lib.hid (And.intro hK (And.intro hR hb))
  clear hK hR hb hup
  go_wp2_with fail
  refine gen_any (T := fun W => Calls _ _ _ W _) (fun W => At W w1.heap.size [.slice A nn c, .slice AE l.length ce, .int .i64 0, .int .i64 0, .slice AP nn cp, .slice AQ nn cq, .slice AR nn cr] 30 ∧ Below w1.heap.size w1 W) ?_ ?_
  · exact ⟨At.made rfl rfl, (Below.refl _ _).alloc (Nat.le_refl _) _⟩
  obtain ⟨g8, hg8⟩ : ∃ g8, w1.heap.size = g8 := ⟨_, rfl⟩
  rw [hg8]
  rintro w2 ⟨h8, hb⟩
  rw [← hg8] at hb
  have HG8 := Lib.hid (show w.heap.size ≤ g8 by rw [← hg8]; exact HK1.out.2.2.size)
  clear hg8
  have H8 := Lib.hid (And.intro h8 hb)
  clear h8 hb
  refine (awake_calls w2).mono ?_
  rintro e w3 ⟨rfl, hb⟩
  have hb13 := H8.out.2.trans (hb.mono H8.out.2.size)
  have HK3 := Lib.hid (And.intro (HK1.out.1.below hb13) (And.intro (HK1.out.2.1.below hb13) (And.intro (HK1.out.2.2.trans (hb13.mono HK1.out.2.2.size)) (H8.out.1.below hb H8.out.1.lt))))
  clear hb hb13 H8 HK1
  go_wp2_with fail
  obtain ⟨wr, hwr⟩ : ∃ wr, w3 = wr := ⟨_, rfl⟩
  rw [hwr] at HK3 ⊢
  clear hwr
  refine (cut2_calls wr a2 more 12 (H2.out.below HK3.out.2.2.1) (by omega)).mono ?_
  clear H2
  rintro e w4 ⟨v50, rfl, hO4⟩
  obtain ⟨M, hM⟩ : ∃ M, more.take 12 = M := ⟨_, rfl⟩
  have hMn : M.length ≤ 12 := by rw [← hM, List.length_take]; omega
  rw [hM] at hO4
  clear hM
  obtain ⟨A50, c50, rfl⟩ := Lw.own_slice hO4.r
  obtain ⟨hk3, hr3, hb3, hx3⟩ := HK3.out
  have hS : GS w gc nn gn ga g8 l l nd al L rk A AE AP AQ AR c ce cp cq cr (.slice A50 M.length c50) M w4 :=
    ⟨hk3.below hO4.b, hr3.below hO4.b, hx3.below hO4.b hx3.lt, World.ownsRow_nil _ _ _ _, own_mono hO4.r hb3.size, fun k h1 h2 => by simp [Value.ownBlock] at h1, hb3.trans (hO4.b.mono hb3.size)⟩
  have HS0 := Lib.hid hS
  clear hS hO4 HK3 hk3 hr3 hb3 hx3
  go_wp2_with fail
  go_loopg [29] M.length (fun kq v29 w' => ∃ j : Nat, v29 = .int .i64 (j : Int) ∧ Hid (j + kq = M.length ∧ ∃ all L' AE' AR' ce' cr', all.length ≤ 120 + j ∧ GS w gc nn gn ga g8 l all nd al L' rk A AE' AP AQ AR' c ce' cp cq cr' (.slice A50 M.length c50) M w'))
  case atStart => exact ⟨0, rfl, Lib.hid ⟨by omega, l, L, AE, AR, ce, cr, by omega, HS0.out⟩⟩
  case round =>
    clear HS0
    obtain ⟨j, rfl, hI⟩ := hrel
    obtain ⟨hjk, all, L', AE', AR', ce', cr', hall, hS⟩ := hI.out
    clear hI
    by_cases hj : j < M.length
    · obtain ⟨k1, rfl⟩ : ∃ k1, gk = k1 + 1 := ⟨gk - 1, by omega⟩
      obtain ⟨⟨u, v⟩, hx⟩ : ∃ x, M[j]? = some x := ⟨_, List.getElem?_eq_getElem hj⟩
      obtain ⟨bm, rfl, qu, qv⟩ := (RdA.of_own hS.t.r2).1 j u v hx
      have HS := Lib.hid hS
      have j0 : (0 : Int) ≤ (j : Int) := by omega
      have j1 : (j : Int) < (M.length : Int) := by omega
      have j2 : (M.length : Int) ≤ 12 := by omega
      clear hS hx
      go_upto_region 8 with (fail)
      refine gen_world (fun W => At W wr.heap.size [.int .i64 u, .int .i64 v] 38 ∧ Below wr.heap.size wr W) ?_ ?_
      · exact ⟨At.made rfl rfl, (Below.refl _ _).alloc (Nat.le_refl _) _⟩
      obtain ⟨g11, hg11⟩ : ∃ g11, wr.heap.size = g11 := ⟨_, rfl⟩
      rw [hg11]
      clear qu qv
      rintro w5 ⟨hat, hb5⟩
      rw [← hg11] at hb5
      clear hg11
      have hS5 := HS.out.below hb5
      have HS := Lib.hid hS5
      clear hb5 hS5
      have qu := hat.cell 0 rfl
      have qv := hat.cell 1 rfl
      have q0 := HS.out.x.cell 0 rfl
      have q1 := HS.out.x.cell 1 rfl
      have q2 := HS.out.x.cell 2 rfl
      have q3 := HS.out.x.cell 3 rfl
      have q4 := HS.out.x.cell 4 rfl
      have q5 := HS.out.x.cell 5 rfl
      have q6 := HS.out.x.cell 6 rfl
      have hG := growR_calls w5 A AE' AP AQ AR' nn c ce' cp cq cr' all _ _ u v HS.out.r HS.out.k.a.good hn1 (by omega) (by omega)
      unfold cV at hG
      have HG := Lib.hid hG
      have HAT := Lib.hid hat
      clear hG hat
      go_wp2_with fail
      refine HG.out.mono ?_
      clear HG q0 q1 q2 q3 q4 q5 q6
      rintro e w6 ⟨hb6, AE2, AR2, ce2, cr2, rfl, hr6⟩
      have hS6 := HS.out.below hb6
      have hat6 := HAT.out.below hb6 HAT.out.lt
      have ha8 := hS6.x
      have HS := Lib.hid hS6
      have HR6 := Lib.hid hr6
      have HC := Lib.hid (show (garcs nn all u v).length ≤ 120 + (j + 1) by have := garcs_len nn all u v; omega)
      obtain ⟨all2, hall2⟩ : ∃ all2, garcs nn all u v = all2 := ⟨_, rfl⟩
      have HA2 := Lib.hid hall2
      rw [hall2] at HR6 HC ⊢
      obtain ⟨code, hcode⟩ : ∃ code, gcode nn all u v = code := ⟨_, rfl⟩
      have HCO := Lib.hid hcode
      rw [hcode]
      have qu := hat6.cell 0 rfl
      have qv := hat6.cell 1 rfl
      have hne : g11 ≠ g8 := hat6.ne ha8 (by decide)
      have f0 := ha8.free 0
      have c0 := ha8.cell 0 rfl
      have f1 := ha8.free 1
      have c1 := ha8.cell 1 rfl
      have f2 := ha8.free 2
      have c2 := ha8.cell 2 rfl
      have f3 := ha8.free 3
      have c3 := ha8.cell 3 rfl
      have f4 := ha8.free 4
      have c4 := ha8.cell 4 rfl
      have f5 := ha8.free 5
      have c5 := ha8.cell 5 rfl
      have f6 := ha8.free 6
      have c6 := ha8.cell 6 rfl
      have HAT := Lib.hid hat6
      clear hS6 hr6 hall2 hcode hat6 ha8 hb6
      unfold cV
      go_upto_region 9 with (fail)
      refine gen_world (fun W => At W g8 [.slice A nn c, .slice AE2 all2.length ce2, .int .i64 0, .int .i64 0, .slice AP nn cp, .slice AQ nn cq, .slice AR2 nn cr2] 30 ∧ Off g8 w6 W) ?_ ?_
      · exact ⟨((((((HS.out.x.set 0 _).set 1 _).set 2 _).set 3 _).set 4 _).set 5 _).set 6 _, (((((((Off.refl g8 w6).set 0 _).set 1 _).set 2 _).set 3 _).set 4 _).set 5 _).set 6 _⟩
      clear f0 c0 f1 c1 f2 c2 f3 c3 f4 c4 f5 c5 f6 c6 qu qv
      rintro w7 ⟨hx7, hO7⟩
      obtain ⟨hk7, hr7, ht7⟩ := HS.out.put hn1 HG8.out HR6.out hO7
      have hat7 := hO7.at_ HAT.out hne
      have qu := hat7.cell 0 rfl
      have qv := hat7.cell 1 rfl
      have hgr := hk7.grow_ u v
      rw [HA2.out, HCO.out] at hgr
      have HGR := Lib.hid hgr
      have H7 := Lib.hid (And.intro hk7 (And.intro hr7 (And.intro ht7 hx7)))
      clear hk7 hr7 ht7 hat7 hgr hx7 hO7 HS HR6 HAT
      go_wp2_with fail
      refine HGR.out.mono ?_
      clear HGR qu qv
      rintro e w8 ⟨rfl, ⟨L2, hk8⟩, hk⟩
      obtain ⟨hk7, hr7, ht7, hx7⟩ := H7.out
      have hl7 := hk7.lab
      have hS8 : GS w gc nn gn ga g8 l all2 nd al L2 rk A AE2 AP AQ AR2 c ce2 cp cq cr2 (.slice (some ⟨bm, 0, none⟩) M.length c50) M w8 :=
        ⟨hk8, RefC.labs hr7 hl7 hk, hx7.kept hk (hl7.not hx7 (by decide)), two_kpt ht7 hl7 (fun k hk => labb_ge hk7 hk) hk (by decide) (by decide)⟩
      have HS8 := Lib.hid hS8
      clear hS8 hk7 hr7 ht7 hx7 hl7 hk8 hk H7
      go_wp2
      go_roundg k1
      case measure => omega
      case rel => exact ⟨j + 1, by go_num, Lib.hid ⟨by omega, all2, L2, AE2, AR2, ce2, cr2, HC.out, HS8.out⟩⟩
    · obtain rfl : j = M.length := by omega
      have q0 := hS.x.cell 0 rfl
      have q1 := hS.x.cell 1 rfl
      have q2 := hS.x.cell 2 rfl
      have q3 := hS.x.cell 3 rfl
      have q4 := hS.x.cell 4 rfl
      have q5 := hS.x.cell 5 rfl
      have q6 := hS.x.cell 6 rfl
      have hT := tells_calls wr A AE' AP AQ AR' c all.length ce' cp cq cr' hS.k hn2 hS.r.ps hS.r.qs hS.r.rs
      unfold cV at hT
      have HT := Lib.hid hT
      have HBB := Lib.hid hS.t.b
      clear hT hS hj hjk
      go_wp2_with fail
      refine HT.out.mono ?_
      clear HT q0 q1 q2 q3 q4 q5 q6
      rintro e w5 ⟨rfl, hb5⟩
      have HB5 := Lib.hid (HBB.out.trans (hb5.mono HBB.out.size))
      clear hb5
      go_wp2_with fail
      go_ret
      exact ⟨rfl, HB5.out⟩
end Go.Proofs.Ytdohfjidnbhfnaa.Lc
