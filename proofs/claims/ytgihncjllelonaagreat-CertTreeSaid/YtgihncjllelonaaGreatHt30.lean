/- cert: Tree. -/
import Derived.Test.YtgihncjllelonaaGreatHt29
import Derived.Test.YtgihncjllelonaaGreatHt24
import Derived.Test.YtgihncjllelonaaGreatHt27
import Derived.Test.YtgihncjllelonaaGreatHt28
namespace Go.Proofs.YtgihncjllelonaaGreat.Ce
open Go Go.RowKit Go.MapKept Go.Proofs.YtgihncjllelonaaGreat.Mem Go.Proofs.YtgihncjllelonaaGreat.Sl Go.Proofs.YtgihncjllelonaaGreat.Lw Go.Proofs.YtgihncjllelonaaGreat.Wt Go.Proofs.YtgihncjllelonaaGreat.Tb Go.Proofs.YtgihncjllelonaaGreatW.PrintWords Go.Proofs.YtgihncjllelonaaGreatW.PrintLast
attribute [local go_sem ↓] Go.wp_at_zero Go.wp_at_succ
set_option linter.unusedSimpArgs false
set_option linter.unusedVariables false

def RdS (w : World) (A : Option Addr) (ds : List Ds) : Prop := ∀ (j : Nat) (v : Int) (f : Bool) (b : Nat) (e : Int), ds[j]? = some (v, f, b, e) → ∃ g off, A = some ⟨g, off, none⟩ ∧ w.cell? ⟨g, off + j * 4, none⟩ = some (.int .i64 v) ∧ w.cell? ⟨g, off + j * 4 + 1, none⟩ = some (.bool f) ∧ w.cell? ⟨g, off + j * 4 + 2, none⟩ = some (.int .u32 (b : Int)) ∧ w.cell? ⟨g, off + j * 4 + 3, none⟩ = some (.int .i64 e)
theorem RdS.below {w w' : World} {A : Option Addr} {ds : List Ds} (h : RdS w A ds) (hb : Below w.heap.size w w') : RdS w' A ds := fun j v f b e hx => by
  obtain ⟨g, off, h1, h2, h3, h4, h5⟩ := h j v f b e hx
  exact ⟨g, off, h1, cell_below hb h2, cell_below hb h3, cell_below hb h4, cell_below hb h5⟩
theorem own_calls (w : World) (s v : Int) (md me b : Nat) (f : Bool) (e : Int) (ds : List Ds) (es : List Ed) (h : Cm w md me ds es) (hb : b < 4294967296) : Calls Tryz.prog 29 #[.agg #[.int .i64 s, .map (some md), .map (some me)], .agg #[.int .i64 v, .bool f, .int .u32 (b : Int), .int .i64 e]] w fun en w' => en = .returned (.bool (ownB s ds es (v, f, b, e))) ∧ Below w.heap.size w w' := by
  by_cases hv : v = s
  · subst hv
    have := own1 w v md me f (b : Int) e
    have he : ownB v ds es (v, f, b, e) = decide (f = false ∧ (b : Int) = 0 ∧ e = 0) := by
      unfold ownB
      rw [if_pos rfl]
      congr 1
      simp
    rw [he]
    exact this
  · cases f with
    | true =>
      have := own2 w s v md me (b : Int) e hv
      have he : ownB s ds es (v, true, b, e) = decide ((b : Int) = 0 ∧ e = 0) := by
        unfold ownB
        rw [if_neg hv, if_pos rfl]
        congr 1
        simp
      rw [he]
      exact this
    | false => exact own3 w s v md me b e ds es hv h hb

def treeB (vs : List Int) (es : List Ed) (s : Int) (ds : List Ds) : Bool :=
  decide (tcode (sorted vs) es s = 0) && decide (ds.length = vs.length) && vs.all (fun v => (dsM ds v).isSome && ownB s ds es (dD ds v)) && es.all (quietB ds) && backS ds es vs.length vs [s]
structure Tm (w W : World) (g md me : Nat) (s : Int) (F G : Int → Option Value) : Prop where
  hat : At W g [.int .i64 s, .map (some md), .map (some me)] 82
  dm : MQ W md F
  em : MQ W me G
  ne : md ≠ me
  l1 : w.heap.size ≤ md
  l2 : w.heap.size ≤ me
  b : Below w.heap.size w W
section
variable {w W W' : World} {g md me : Nat} {s : Int} {F G : Int → Option Value}
theorem Tm.below (h : Tm w W g md me s F G) (hb : Below W.heap.size W W') : Tm w W' g md me s F G :=
  ⟨h.hat.below hb h.hat.lt, h.dm.below hb h.dm.lt, h.em.below hb h.em.lt, h.ne, h.l1, h.l2, h.b.trans (hb.mono h.b.size)⟩
theorem Tm.al (h : Tm w W g md me s F G) (o : Obj) : Tm w (W.alloc o) g md me s F G := h.below ((Below.refl _ _).alloc (Nat.le_refl _) _)
theorem put_below {o : Obj} {b : Nat} (hl : w.heap.size ≤ b) (h : Below w.heap.size w W) : Below w.heap.size w (putObj W b o) := ⟨h.os, h.tape, h.output, by rw [putObj_size]; exact h.size, fun k hk => (putObj_far (by omega)).trans (h.block k hk)⟩
theorem Tm.putD (h : Tm w W g md me s F G) (x : Int) (v : Value) : ∃ o, (Instr.mapUpdate 79 (.map (some md)) (.int .i64 x) v).run Tryz.prog W = .ok () (putObj W md o) ∧ Tm w (putObj W md o) g md me s (updV F x (some v)) G := by
  obtain ⟨o, hr, hm⟩ := h.dm.update (P := Tryz.prog) (T := 79) Tryz.underlying79 Tryz.underlying3 x v
  exact ⟨o, hr, h.hat.putObj (h.dm.ne h.hat), hm, h.em.move (putObj_far h.ne.symm), h.ne, h.l1, h.l2, put_below h.l1 h.b⟩
theorem Tm.putE (h : Tm w W g md me s F G) (x : Int) (v : Value) : ∃ o, (Instr.mapUpdate 80 (.map (some me)) (.int .i64 x) v).run Tryz.prog W = .ok () (putObj W me o) ∧ Tm w (putObj W me o) g md me s F (updV G x (some v)) := by
  obtain ⟨o, hr, hm⟩ := h.em.update (P := Tryz.prog) (T := 80) Tryz.underlying80 Tryz.underlying3 x v
  exact ⟨o, hr, h.hat.putObj (h.em.ne h.hat), h.dm.move (putObj_far h.ne), hm, h.ne, h.l1, h.l2, put_below h.l2 h.b⟩
end
section
variable {w W W' : World} {g md me : Nat} {s : Int} {ds : List Ds} {es : List Ed}
theorem Tm.cm (h : Tm w W g md me s (dsF ds) (edF es)) (hd : ∀ p ∈ ds, p.2.2.1 < 4294967296) (he : ∀ p ∈ es, p.2.2.2 < 4294967296) : Cm W md me ds es := ⟨h.dm, h.em, hd, he⟩
set_option maxRecDepth 100000 in
theorem Tm.look (h : Tm w W g md me s (dsF ds) (edF es)) (v : Int) : (Instr.lookup 79 (.map (some md)) (.int .i64 v) true).run Tryz.prog W = .ok (.tuple #[.agg #[.int .i64 (dD ds v).1, .bool (dD ds v).2.1, .int .u32 ((dD ds v).2.2.1 : Int), .int .i64 (dD ds v).2.2.2], .bool (dsM ds v).isSome]) W := by
  have := h.dm.lookup_ok (P := Tryz.prog) (T := 79) Tryz.underlying79 Tryz.underlying3 zero_dist v
  rw [dsF_get] at this
  have h2 : (dsF ds v).isSome = (dsM ds v).isSome := by unfold dsF; simp
  rwa [h2] at this
end
theorem mkD (W : World) : (Instr.makeMap 79 none).run Tryz.prog W = .ok (.map (some W.heap.size)) (W.alloc (.map #[] 0)) := rfl
theorem mkE2 (W : World) : (Instr.makeMap 80 none).run Tryz.prog W = .ok (.map (some W.heap.size)) (W.alloc (.map #[] 0)) := rfl
theorem take_snoc {α : Type} {l : List α} {j : Nat} {x : α} (h : l[j]? = some x) : l.take (j + 1) = l.take j ++ [x] := by rw [List.take_add_one, h]; rfl
set_option maxHeartbeats 16000000 in
set_option maxRecDepth 100000 in
theorem tree_calls (w : World) (Av Ae Ad : Option Addr) (cv ce cd : Nat) (vs : List Int) (es : List Ed) (ds : List Ds) (s : Int) (hv : RdI w Av vs) (he : RdD w Ae es) (hd : RdS w Ad ds) (hvl : vs.length ≤ 400) (hel : es.length ≤ 400) (hbit : ∀ p ∈ es, p.2.2.2 < 4294967296) (hdb : ∀ p ∈ ds, p.2.2.1 < 4294967296) :
    Calls Tryz.prog 10 #[.slice Av vs.length cv, .slice Ae es.length ce, .agg #[.int .i64 s, .slice Ad ds.length cd]] w fun e w' => e = .returned (.bool (treeB vs es s ds)) ∧ Below w.heap.size w w' := by
  have hBx : Below w.heap.size w (w.alloc (.cells #[.int .i64 s, .slice Ad ds.length cd] 26)) := (Below.refl _ _).alloc (Nat.le_refl _) _
  have hbu := build_calls _ Av Ae cv ce vs es s (hv.below hBx) (he.below hBx) hvl hel hbit (fun hz => dj_ends (by rw [sorted_length]; exact hvl) hz)
  obtain ⟨n, hn⟩ : ∃ n, vs.length = n := ⟨_, rfl⟩
  obtain ⟨m, hm⟩ : ∃ m, es.length = m := ⟨_, rfl⟩
  obtain ⟨dl, hdl⟩ : ∃ m, ds.length = m := ⟨_, rfl⟩
  obtain ⟨code, hcode⟩ : ∃ c, tcode (sorted vs) es s = c := ⟨_, rfl⟩
  obtain ⟨ans, hans⟩ : ∃ a, treeB vs es s ds = a := ⟨_, rfl⟩
  rw [hn, hm, hcode] at hbu
  rw [hdl] at hbu
  rw [hn, hm, hdl, hans]
  have hsp := hans
  unfold treeB at hsp
  rw [hcode, hn, hdl] at hsp
  have HA := Lib.hid hsp
  have HI := Lib.hid (And.intro hn (And.intro hm (And.intro hdl (And.intro hv (And.intro he (And.intro hd (And.intro hbit hdb)))))))
  have HE := Lib.hid (fun hz : code = 0 => (tcode_zero (hcode.trans hz)).2.1)
  have HBU := Lib.hid hbu
  have hn4 : n ≤ 400 := by omega
  have hm4 : m ≤ 400 := by omega
  clear hv he hd hbit hdb hBx hbu hn hm hdl hcode hans hsp hvl hel
  go_enter Tryz.func10, Tryz.ntmps10
  go_wp2_with fail
  refine HBU.out.mono ?_
  clear HBU
  rintro e1 w2 ⟨hb2, hcase⟩
  have HB2 := Lib.hid (((Below.refl w.heap.size w).alloc (Nat.le_refl _) (.cells #[.int .i64 s, .slice Ad dl cd] 26)).trans (hb2.mono (by simp)))
  have HQ := Lib.hid ((show At (w.alloc (.cells #[.int .i64 s, .slice Ad dl cd] 26)) w.heap.size [.int .i64 s, .slice Ad dl cd] 26 from At.made rfl rfl).below hb2 (by simp))
  clear hb2
  obtain ⟨g5, hg5⟩ : ∃ g, w.heap.size = g := ⟨_, rfl⟩
  rw [hg5] at HQ ⊢
  have q0 := HQ.out.cell 0 rfl
  have q1 := HQ.out.cell 1 rfl
  clear hg5
  rcases hcase with ⟨hne, rfl⟩ | ⟨hz, gt, n1, c1, me1, ms1, A1, R, -, rfl, -⟩
  · have hz1 : ((code : Int) != 0) = true := by simpa using (show ¬ ((code : Int) = 0) by omega)
    have HZ := Lib.hid (show false = ans from by rw [← HA.out, decide_eq_false hne]; rfl)
    clear HA HE hne
    go_wp2
    go_ret
    exact ⟨by rw [← HZ.out]; rfl, HB2.out⟩
  · subst hz
    have HE2 := Lib.hid (HE.out rfl)
    clear HE
    by_cases hdn : dl = n
    · subst hdn
      have hd1 : ((dl : Int) != (dl : Int)) = false := by simp
      have h1 := mkD
      have h2 := mkE2
      go_upto_region 5 with (fail)
      clear h1 h2 q0 q1 hd1
      obtain ⟨md, hmd⟩ : ∃ k, w2.heap.size = k := ⟨_, rfl⟩
      have hT : Tm w (((w2.alloc (.map #[] 0)).alloc (.map #[] 0)).alloc (.cells #[.int .i64 s, .map (some w2.heap.size), .map (some (w2.heap.size + 1))] 82)) (md + 1 + 1) md (md + 1) s (dsF []) (edF []) := by
        subst hmd
        have s1 := HB2.out.size
        have e0 : dsF [] = fun _ => none := rfl
        have e1 : edF [] = fun _ => none := rfl
        rw [e0, e1]
        have hms := (MQ.new (w2.alloc (.map #[] 0))).al (o := .cells #[.int .i64 s, .map (some w2.heap.size), .map (some (w2.heap.size + 1))] 82)
        exact ⟨At.made (by simp) rfl, ((MQ.new w2).al).al, by simpa using hms, by omega, by omega, by omega, ((HB2.out.alloc s1 _).alloc (by simp; omega) _).alloc (by simp; omega) _⟩
      rw [hmd] at hT ⊢
      obtain ⟨g9, hg9⟩ : ∃ g, md + 1 + 1 = g := ⟨_, rfl⟩
      obtain ⟨me, hme⟩ : ∃ g, md + 1 = g := ⟨_, rfl⟩
      rw [hg9, hme] at hT ⊢
      refine gen_world (fun W => Tm w W g9 md me s (dsF []) (edF []) ∧ At W g5 [.int .i64 s, .slice Ad dl cd] 26) ⟨hT, HQ.out.al.al.al⟩ ?_
      clear HB2 HQ hT hg9 hme hmd
      rintro w3 ⟨hT, hQ⟩
      have q1 := hQ.cell 1 rfl
      have HT := Lib.hid hT
      clear hT hQ
      go_upto_block 0 with (fail)
      clear q1
      go_cut [11] from 46 to 55 (fun s11 wx => Tm w wx g9 md me s (dsF ds) (edF []))
      case first =>
        go_wp2_with fail
        go_loopg [46] (dl + 1) (fun kq v46 w' => ∃ j : Nat, v46 = .int .i64 (j : Int) ∧ Hid (j + kq = dl + 1 ∧ j ≤ dl ∧ Tm w w' g9 md me s (dsF (ds.take j)) (edF [])))
        case atStart => exact ⟨0, rfl, Lib.hid ⟨by omega, by omega, HT.out⟩⟩
        case round =>
          obtain ⟨j, rfl, hJ⟩ := hrel
          obtain ⟨hjk, hjn, hT⟩ := hJ.out
          clear hJ HT
          by_cases hj : j < dl
          · obtain ⟨k1, rfl⟩ : ∃ k1, gk = k1 + 1 := ⟨gk - 1, by omega⟩
            obtain ⟨⟨v, f, b, e⟩, hx⟩ : ∃ x, ds[j]? = some x := ⟨_, List.getElem?_eq_getElem (by have := HI.out.2.2.1; omega)⟩
            obtain ⟨gd, od, hgd, x0, x1, x2, x3⟩ := (HI.out.2.2.2.2.2.1.below hT.b) j v f b e hx
            subst hgd
            have j0 : (0 : Int) ≤ (j : Int) := by omega
            have j1 : (j : Int) < (dl : Int) := by omega
            have hT1 := hT.al (.cells #[.int .i64 v, .bool f, .int .u32 (b : Int), .int .i64 e] 78)
            have p1 := hT1.hat.cell 1 rfl
            obtain ⟨o, hr, hT2⟩ := hT1.putD v (.agg #[.int .i64 v, .bool f, .int .u32 (b : Int), .int .i64 e])
            have hst := dsF_step (ds.take j) (v, f, b, e)
            rw [← take_snoc hx] at hst
            have HX := Lib.hid (And.intro hjk (hst ▸ hT2))
            clear hT hT1 hT2 hst hx hjk hj
            go_wp2
            go_roundg k1
            case measure => omega
            case rel => exact ⟨j + 1, by go_num, Lib.hid ⟨by have := HX.out.1; omega, by omega, HX.out.2⟩⟩
          · obtain rfl : j = dl := by omega
            have jn : ¬ ((j : Int) < (j : Int)) := by omega
            rw [List.take_of_length_le (by have := HI.out.2.2.1; omega)] at hT
            have HZ := Lib.hid hT
            clear hT hjk hjn hj
            go_wp2_with fail
            go_meet
            exact HZ.out
      case rest =>
        rename World => w4
        have HT4 := Lib.hid hcut
        clear hcut HT
        go_upto_block 2 with (fail)
        go_cut [13] from 58 to 67 (fun s13 wx => Tm w wx g9 md me s (dsF ds) (edF es))
        case first =>
          go_wp2_with fail
          go_loopg [58] (m + 1) (fun kq v58 w' => ∃ j : Nat, v58 = .int .i64 (j : Int) ∧ Hid (j + kq = m + 1 ∧ j ≤ m ∧ Tm w w' g9 md me s (dsF ds) (edF (es.take j))))
          case atStart => exact ⟨0, rfl, Lib.hid ⟨by omega, by omega, HT4.out⟩⟩
          case round =>
            obtain ⟨j, rfl, hJ⟩ := hrel
            obtain ⟨hjk, hjn, hT⟩ := hJ.out
            clear hJ HT4
            by_cases hj : j < m
            · obtain ⟨k1, rfl⟩ : ∃ k1, gk = k1 + 1 := ⟨gk - 1, by omega⟩
              obtain ⟨⟨e, u, v, b⟩, hx⟩ : ∃ x, es[j]? = some x := ⟨_, List.getElem?_eq_getElem (by have := HI.out.2.1; omega)⟩
              obtain ⟨ge, hge, x0, x1, x2, x3⟩ := (HI.out.2.2.2.2.1.below hT.b) j e u v b hx
              subst hge
              have j0 : (0 : Int) ≤ (j : Int) := by omega
              have j1 : (j : Int) < (m : Int) := by omega
              have hT1 := hT.al (.cells #[.int .i64 e, .int .i64 u, .int .i64 v, .int .u32 (b : Int)] 74)
              have p1 := hT1.hat.cell 2 rfl
              obtain ⟨o, hr, hT2⟩ := hT1.putE e (.agg #[.int .i64 e, .int .i64 u, .int .i64 v, .int .u32 (b : Int)])
              have hst := edF_step (es := es.take j) (x := (e, u, v, b)) (fun p hp h => dup_not hx hp h HE2.out)
              rw [← take_snoc hx] at hst
              have HX := Lib.hid (And.intro hjk (hst ▸ hT2))
              clear hT hT1 hT2 hst hx hjk hj
              go_wp2
              go_roundg k1
              case measure => omega
              case rel => exact ⟨j + 1, by go_num, Lib.hid ⟨by have := HX.out.1; omega, by omega, HX.out.2⟩⟩
            · obtain rfl : j = m := by omega
              have jn : ¬ ((j : Int) < (j : Int)) := by omega
              rw [List.take_of_length_le (by have := HI.out.2.1; omega)] at hT
              have HZ := Lib.hid hT
              clear hT hjk hjn hj
              go_wp2_with fail
              go_meet
              exact HZ.out
        case rest =>
          rename World => w5
          have HT5 := Lib.hid hcut
          clear hcut HT4
          go_upto_block 4 with (fail)
          go_cut [15, 16, 17] from 70 to 89 (fun s15 s16 s17 wx => Tm w wx g9 md me s (dsF ds) (edF es) ∧ Hid (vs.all (fun v => (dsM ds v).isSome && ownB s ds es (dD ds v)) = true))
          case first =>
            go_wp2_with fail
            go_loopg [70] (dl + 1) (fun kq v70 w' => ∃ j : Nat, v70 = .int .i64 (j : Int) ∧ Hid (j + kq = dl + 1 ∧ j ≤ dl ∧ Tm w w' g9 md me s (dsF ds) (edF es) ∧ (vs.take j).all (fun v => (dsM ds v).isSome && ownB s ds es (dD ds v)) = true))
            case atStart => exact ⟨0, rfl, Lib.hid ⟨by omega, by omega, HT5.out, rfl⟩⟩
            case round =>
              obtain ⟨j, rfl, hJ⟩ := hrel
              obtain ⟨hjk, hjn, hT, hall⟩ := hJ.out
              clear hJ HT5
              by_cases hj : j < dl
              · obtain ⟨k1, rfl⟩ : ∃ k1, gk = k1 + 1 := ⟨gk - 1, by omega⟩
                obtain ⟨v, hx⟩ : ∃ x, vs[j]? = some x := ⟨_, List.getElem?_eq_getElem (by have := HI.out.1; omega)⟩
                obtain ⟨gv, hgv, x0⟩ := (HI.out.2.2.2.1.below hT.b) j v hx
                subst hgv
                have j0 : (0 : Int) ≤ (j : Int) := by omega
                have j1 : (j : Int) < (dl : Int) := by omega
                have lk := hT.look v
                have p0 := hT.hat.cell 1 rfl
                obtain ⟨⟨dv, df, db, de⟩, hdD⟩ : ∃ x, dD ds v = x := ⟨_, rfl⟩
                have hdb2 := dD_bits HI.out.2.2.2.2.2.2.2 v
                obtain ⟨inn, hin⟩ : ∃ r, (dsM ds v).isSome = r := ⟨_, rfl⟩
                rw [hdD, hin] at lk
                rw [hdD] at hdb2
                have hT1 := hT.al (.cells #[.int .i64 dv, .bool df, .int .u32 (db : Int), .int .i64 de] 78)
                obtain ⟨ow, how⟩ : ∃ r, ownB s ds es (dv, df, db, de) = r := ⟨_, rfl⟩
                have HOW := Lib.hid (own_calls _ s dv md me db df de ds es (hT1.cm HI.out.2.2.2.2.2.2.2 HI.out.2.2.2.2.2.2.1) hdb2)
                rw [how] at HOW
                have hst : (vs.take (j + 1)).all (fun v => (dsM ds v).isSome && ownB s ds es (dD ds v)) = (inn && ow) := by
                  rw [take_snoc hx, List.all_append, hall]
                  simp [hin, hdD, how]
                have hbad : (inn && ow) = false → false = ans := fun h => by
                  rw [← HA.out]
                  have hx2 : vs.all (fun v => (dsM ds v).isSome && ownB s ds es (dD ds v)) = false := by
                    rw [List.all_eq_false]
                    exact ⟨v, List.mem_of_getElem? hx, by simp only [hin, hdD, how, h]; simp⟩
                  rw [hx2]
                  simp
                have HBAD := Lib.hid hbad
                have HT1 := Lib.hid hT1
                have HS := Lib.hid (And.intro hst hjk)
                have c0 := hT1.hat.cell 0 rfl
                have c1 := hT1.hat.cell 1 rfl
                have c2 := hT1.hat.cell 2 rfl
                clear hbad hT1 hst hjk hall hx hT hin hdD how hdb2 hj
                cases inn with
                | false =>
                  have HZ := Lib.hid (HBAD.out rfl)
                  have HBE := Lib.hid HT1.out.b
                  clear HBAD HOW HS HT1 c0 c1 c2
                  go_wp2
                  go_ret
                  exact ⟨by rw [← HZ.out]; rfl, HBE.out⟩
                | true =>
                  go_wp2_with fail
                  refine HOW.out.mono ?_
                  clear HOW c0 c1 c2 lk p0 x0
                  rintro e2 w6 ⟨rfl, b6⟩
                  have HT6 := Lib.hid (HT1.out.below b6)
                  clear b6 HT1
                  cases ow with
                  | false =>
                    have HZ := Lib.hid (HBAD.out rfl)
                    have HBE := Lib.hid HT6.out.b
                    clear HBAD HS HT6
                    go_wp2
                    go_ret
                    exact ⟨by rw [← HZ.out]; rfl, HBE.out⟩
                  | true =>
                    clear HBAD
                    go_wp2
                    go_roundg k1
                    case measure => omega
                    case rel => exact ⟨j + 1, by go_num, Lib.hid ⟨by have := HS.out.2; omega, by omega, HT6.out, HS.out.1⟩⟩
              · obtain rfl : j = dl := by omega
                have jn : ¬ ((j : Int) < (j : Int)) := by omega
                rw [List.take_of_length_le (by have := HI.out.1; omega)] at hall
                have HZ := Lib.hid (And.intro hT (Lib.hid hall))
                clear hT hall hjk hjn hj
                go_wp2_with fail
                go_meet
                exact HZ.out
          case rest =>
            obtain ⟨hT, HV⟩ := hcut
            rename World => w6
            have HT6 := Lib.hid hT
            clear hT HT5
            go_upto_block 6 with (fail)
            go_cut [19] from 92 to 100 (fun s19 wx => Tm w wx g9 md me s (dsF ds) (edF es) ∧ Hid (es.all (quietB ds) = true))
            case first =>
              go_wp2_with fail
              go_loopg [92] (m + 1) (fun kq v92 w' => ∃ j : Nat, v92 = .int .i64 (j : Int) ∧ Hid (j + kq = m + 1 ∧ j ≤ m ∧ Tm w w' g9 md me s (dsF ds) (edF es) ∧ (es.take j).all (quietB ds) = true))
              case atStart => exact ⟨0, rfl, Lib.hid ⟨by omega, by omega, HT6.out, rfl⟩⟩
              case round =>
                obtain ⟨j, rfl, hJ⟩ := hrel
                obtain ⟨hjk, hjn, hT, hall⟩ := hJ.out
                clear hJ HT6
                by_cases hj : j < m
                · obtain ⟨k1, rfl⟩ : ∃ k1, gk = k1 + 1 := ⟨gk - 1, by omega⟩
                  obtain ⟨⟨e, u, v, b⟩, hx⟩ : ∃ x, es[j]? = some x := ⟨_, List.getElem?_eq_getElem (by have := HI.out.2.1; omega)⟩
                  obtain ⟨ge, hge, x0, x1, x2, x3⟩ := (HI.out.2.2.2.2.1.below hT.b) j e u v b hx
                  subst hge
                  have j0 : (0 : Int) ≤ (j : Int) := by omega
                  have j1 : (j : Int) < (m : Int) := by omega
                  have hT1 := hT.al (.cells #[.int .i64 e, .int .i64 u, .int .i64 v, .int .u32 (b : Int)] 74)
                  obtain ⟨ow, how⟩ : ∃ r, quietB ds (e, u, v, b) = r := ⟨_, rfl⟩
                  have HOW := Lib.hid (quiet_calls _ s md me ds es (hT1.cm HI.out.2.2.2.2.2.2.2 HI.out.2.2.2.2.2.2.1) e u v b (HI.out.2.2.2.2.2.2.1 _ (List.mem_of_getElem? hx)))
                  rw [how] at HOW
                  have hst : (es.take (j + 1)).all (quietB ds) = ow := by
                    rw [take_snoc hx, List.all_append, hall]
                    simp [how]
                  have hbad : ow = false → false = ans := fun h => by
                    rw [← HA.out]
                    have hx2 : es.all (quietB ds) = false := by
                      rw [List.all_eq_false]
                      exact ⟨_, List.mem_of_getElem? hx, by rw [how, h]; simp⟩
                    rw [hx2]
                    simp
                  have HBAD := Lib.hid hbad
                  have HT1 := Lib.hid hT1
                  have HS := Lib.hid (And.intro hst hjk)
                  have c0 := hT1.hat.cell 0 rfl
                  have c1 := hT1.hat.cell 1 rfl
                  have c2 := hT1.hat.cell 2 rfl
                  clear hbad hT1 hst hjk hall hx hT how hj
                  go_wp2_with fail
                  refine HOW.out.mono ?_
                  clear HOW c0 c1 c2 x0 x1 x2 x3
                  rintro e2 w7 ⟨rfl, b7⟩
                  have HT7 := Lib.hid (HT1.out.below b7)
                  clear b7 HT1
                  cases ow with
                  | false =>
                    have HZ := Lib.hid (HBAD.out rfl)
                    have HBE := Lib.hid HT7.out.b
                    clear HBAD HS HT7
                    go_wp2
                    go_ret
                    exact ⟨by rw [← HZ.out]; rfl, HBE.out⟩
                  | true =>
                    clear HBAD
                    go_wp2
                    go_roundg k1
                    case measure => omega
                    case rel => exact ⟨j + 1, by go_num, Lib.hid ⟨by have := HS.out.2; omega, by omega, HT7.out, HS.out.1⟩⟩
                · obtain rfl : j = m := by omega
                  have jn : ¬ ((j : Int) < (j : Int)) := by omega
                  rw [List.take_of_length_le (by have := HI.out.2.1; omega)] at hall
                  have HZ := Lib.hid (And.intro hT (Lib.hid hall))
                  clear hT hall hjk hjn hj
                  go_wp2_with fail
                  go_meet
                  exact HZ.out
            case rest =>
              obtain ⟨hT, HW⟩ := hcut
              rename World => w7
              have hbk := back_calls w7 s md me cv ds es Av vs (hT.cm HI.out.2.2.2.2.2.2.2 HI.out.2.2.2.2.2.2.1) (HI.out.2.2.2.1.below hT.b) (by have := HI.out.1; omega)
              rw [HI.out.1] at hbk
              have hz : backS ds es dl vs [s] = ans := by
                rw [← HA.out, HV.out, HW.out]
                simp
              rw [hz] at hbk
              have HBK := Lib.hid hbk
              have HB := Lib.hid hT.b
              have c0 := hT.hat.cell 0 rfl
              have c1 := hT.hat.cell 1 rfl
              have c2 := hT.hat.cell 2 rfl
              clear hT hbk hz HT6
              go_wp2_with fail
              refine HBK.out.mono ?_
              clear HBK c0 c1 c2
              rintro e2 w8 ⟨rfl, b8⟩
              have HE8 := Lib.hid (HB.out.trans (b8.mono HB.out.size))
              clear b8
              go_wp2
              go_ret
              exact ⟨rfl, HE8.out⟩
    · have hd1 : ((dl : Int) != (n : Int)) = true := by simpa using (show ¬ ((dl : Int) = (n : Int)) by omega)
      have HZ := Lib.hid (show false = ans from by rw [← HA.out, decide_eq_false hdn]; simp)
      clear HA hdn
      go_wp2
      go_ret
      exact ⟨by rw [← HZ.out]; rfl, HB2.out⟩
end Go.Proofs.YtgihncjllelonaaGreat.Ce

/- The laws' fixed fact: its lists, and what the program says of them. -/
namespace Go.Proofs.YtgihncjllelonaaGreat.Ce
open Go Go.RowKit Go.MapKept Go.Proofs.YtgihncjllelonaaGreat.Mem Go.Proofs.YtgihncjllelonaaGreat.Sl Go.Proofs.YtgihncjllelonaaGreat.Lw Go.Proofs.YtgihncjllelonaaGreat.Wt Go.Proofs.YtgihncjllelonaaGreat.Tb Go.Proofs.YtgihncjllelonaaGreat.Scc Go.Proofs.YtgihncjllelonaaGreat.Tj
set_option linter.unusedSimpArgs false
set_option linter.unusedVariables false

abbrev awA : List (Int × Int) := [(1, 2), (2, 1)]
abbrev awL : List Lb := [(1, 7, [(7, 7)]), (2, 7, [(6, 9)]), (3, 5, [(5, 5)])]
abbrev awE : List Ed := [(1, 1, 2, 1065353216), (2, 2, 1, 1065353216)]
abbrev awD : List Ds := [(1, false, 0, 0), (2, false, 1065353216, 1), (3, true, 0, 0)]
theorem aw_sorted : sorted [1, 2, 3] = [1, 2, 3] := sorted_of (by decide) (by decide)
theorem aw_of : ofS [1, 2, 3] awA (sorted [1, 2, 3]) 20 = some (0, [[1, 2], [3]]) := by
  rw [aw_sorted]
  kernel_rfl
theorem aw_of0 : ofS [1, 2, 3] [] (sorted [1, 2, 3]) 20 = some (0, [[1], [2], [3]]) := by
  rw [aw_sorted]
  kernel_rfl
theorem aw_cl {a v : Int} (h : Cl (fun x y => (x, y) ∈ awA) a v) : a = v ∨ (a ≤ 2 ∧ v ≤ 2) := by
  induction h with
  | base => exact .inl rfl
  | step _ he ih =>
    have he : (_, _) ∈ awA := he
    simp at he
    omega
theorem aw_cl0 {a v : Int} (h : Cl (fun x y => (x, y) ∈ ([] : List (Int × Int))) a v) : a = v := by
  induction h with
  | base => rfl
  | step _ he ih => cases he
theorem aw_lab : LabOk 0 [1, 2, 3] awA awL := by
  refine ⟨rfl, rfl, fun v hv => ?_, fun l hl v p hp => ?_⟩
  · simp at hv
    rcases hv with rfl | rfl | rfl <;> decide
  · have h12 : Cl (fun x y => (x, y) ∈ awA) 1 2 := .step .base (by decide)
    have h21 : Cl (fun x y => (x, y) ∈ awA) 2 1 := .step .base (by decide)
    have hv : (v = 1 ∧ p = 7) ∨ (v = 2 ∧ p = 7) ∨ (v = 3 ∧ p = 5) := by
      unfold pM at hp
      simp [List.find?_cons] at hp
      by_cases h3 : (3 : Int) = v
      · subst h3
        simp at hp
        omega
      · by_cases h2 : (2 : Int) = v
        · subst h2
          simp at hp
          omega
        · by_cases h1 : (1 : Int) = v
          · subst h1
            simp at hp
            omega
          · simp [h1, h2, h3] at hp
    simp at hl
    rcases hl with rfl | rfl | rfl <;> rcases hv with ⟨rfl, rfl⟩ | ⟨rfl, rfl⟩ | ⟨rfl, rfl⟩ <;>
      first
      | exact ⟨fun _ => .base, fun _ => by decide⟩
      | exact ⟨fun _ => h12, fun _ => by decide⟩
      | exact ⟨fun _ => h21, fun _ => by decide⟩
      | exact ⟨fun h => absurd h (by decide), fun h => by have := aw_cl h; omega⟩
theorem aw_lab0 : ¬ LabOk 0 [1, 2, 3] [] awL := fun h => by
  have := aw_cl0 ((h.2.2.2 (1, 7, [(7, 7)]) (by simp) 2 7 (by decide)).1 (by decide))
  omega
theorem aw_parts : PartsOk 0 [[1, 2], [3]] [[2, 1], [3]] := ⟨rfl, rfl, by
  rw [List.map_cons, List.map_cons, List.map_nil, sorted_of (l := [2, 1]) (sl := [1, 2]) (by decide) (by decide), sorted_of (l := [3]) (sl := [3]) (by decide) (by decide)]⟩
theorem aw_parts1 : ¬ PartsOk 0 [[1, 2], [3]] [[1, 2, 3]] := fun h => by have := h.2.1; simp at this
theorem aw_tree : treeB [1, 2, 3] awE 1 awD = true := by
  unfold treeB
  rw [aw_sorted]
  kernel_rfl
theorem aw_tree2 : treeB [1, 2, 3] [(1, 1, 2, 1065353216)] 2 awD = false := by
  unfold treeB
  rw [aw_sorted]
  kernel_rfl
end Go.Proofs.YtgihncjllelonaaGreat.Ce
