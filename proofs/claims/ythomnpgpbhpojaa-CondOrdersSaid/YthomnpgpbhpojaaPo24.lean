/- cond: part, the arcs within. -/
import Derived.Test.YthomnpgpbhpojaaPo5
import Derived.Test.YthomnpgpbhpojaaPo23
namespace Go.Proofs.Ythomnpgpbhpojaa.Cd
open Go Go.RowKit Go.MapKept Go.Proofs.Ythomnpgpbhpojaa.Mem Go.Proofs.Ythomnpgpbhpojaa.Sl Go.Proofs.Ythomnpgpbhpojaa.Tj Go.Proofs.Ythomnpgpbhpojaa.Scc Go.Proofs.Ythomnpgpbhpojaa.Lw Go.Proofs.Ythomnpgpbhpojaa.Pt Go.Proofs.YthomnpgpbhpojaaW.PrintWords Go.Proofs.YthomnpgpbhpojaaW.PrintLast
attribute [local go_sem ↓] Go.wp_at_zero Go.wp_at_succ
set_option linter.unusedSimpArgs false
set_option linter.unusedVariables false

section
variable {w w' W W' w1 : World} {gc ga go gi gp gm : Nat} {lk : Int} {arcs : Int → Option (Int × Int)} {ob ib : Int → Nat} {cls : Int → Option Nat} {row : Nat → List Int} {val : Nat → Value} {tg : Nat → Nat × Int} {pb cb : Nat → Prop} {fa fo fi fu fv : Int → Option Value} {Fo Fi : Int → Int → Option Value} {D : Int → Prop}
structure PaI (w : World) (gc ga go gi gp gm : Nat) (lk : Int) (arcs : Int → Option (Int × Int)) (ob ib : Int → Nat) (cls : Int → Option Nat) (row : Nat → List Int) (val : Nat → Value) (tg : Nat → Nat × Int) (pb cb : Nat → Prop) (vs : List Int) (i : Nat) (d : Nat) (AL : List (Int × Int)) (v4 : Value) (W : World) : Prop where
  k : Kpt (· = gc) w W
  c : CdS W gc ga go gi gp gm (lk + i) arcs ob ib cls row val tg pb cb
  r : W.ownsRow w.heap.size 69 2 v4 AL.length (arcs2 AL)
  l : AL.length ≤ d
theorem PaI.below {i d : Nat} {AL : List (Int × Int)} {v4 : Value} {vs : List Int} (h : PaI w gc ga go gi gp gm lk arcs ob ib cls row val tg pb cb vs i d AL v4 W) (hb : Below W.heap.size W W') : PaI w gc ga go gi gp gm lk arcs ob ib cls row val tg pb cb vs i d AL v4 W' :=
  ⟨h.k.below hb, h.c.below hb, own_below h.r hb, h.l⟩
theorem PaI.look {i d : Nat} {AL : List (Int × Int)} {v4 : Value} {vs : List Int} (h : PaI w gc ga go gi gp gm lk arcs ob ib cls row val tg pb cb vs i d AL v4 W) : PaI w gc ga go gi gp gm lk arcs ob ib cls row val tg pb cb vs (i + 1) d AL v4 (W.setCell ⟨gc, 4, none⟩ (.int .i64 (lk + i + 1))) := by
  refine ⟨h.k.set (fun _ => rfl) _, ?_, ?_, h.l⟩
  · have := h.c.look (lk + i + 1)
    rwa [show lk + ((i + 1 : Nat) : Int) = lk + i + 1 by omega]
  · exact ownsRow_setCell_other h.r (a := ⟨gc, 4, none⟩) (fun e => own_off h.r h.c.m.hc (by decide) e.symm) _
def JI (w : World) (gc ga go gi gp gm : Nat) (lk : Int) (arcs : Int → Option (Int × Int)) (ob ib : Int → Nat) (tg : Nat → Nat × Int) (cb q : Nat → Prop) (cB : Int → Option Nat) (bo : Nat) (ls G : List (List Int)) (W : World) : Prop :=
  ∃ cls' row' val' pb' cb', CdS W gc ga go gi gp gm lk arcs ob ib cls' row' val' tg pb' cb' ∧ GJ cB cls' G ∧ Kpt cb w W ∧ (∀ k, cb' k → ext cb w W k ∧ ¬ q k) ∧ RdQ q W bo ls
theorem JI.drew {q : Nat → Prop} {cB : Int → Option Nat} {bo : Nat} {ls G : List (List Int)} (h : JI w gc ga go gi gp gm lk arcs ob ib tg cb q cB bo ls G W) : JI w gc ga go gi gp gm lk arcs ob ib tg cb q cB bo ls G W.drew := by
  obtain ⟨c', row', val', pb', cb', hC, hG, hK, hn, hQ⟩ := h
  exact ⟨c', row', val', pb', cb', hC.below (Below.refl _ _).drew, hG, hK.drew, hn, hQ⟩
theorem ji_join {q : Nat → Prop} {cB : Int → Option Nat} {bo i j B E : Nat} {ls : List (List Int)} {l0 x : Int} {tl sl V : List Int} {N : Int → Int → Prop} (hgrp : Grp sl N ls) (hl : ls[i]? = some (l0 :: tl)) (hx : tl[j]? = some x)
    (hdis : ∀ z ∈ sl, cB z ≠ none ∧ ∀ a, cB a = cB z → a = z) (hV : ∀ x, cB x ≠ none → x ∈ V) (hVl : V.length ≤ 500) (hq : ∀ k, q k → B ≤ k ∧ k < E) (hE : E ≤ W.heap.size)
    (hJ : JI w gc ga go gi gp gm lk arcs ob ib tg cb q cB bo ls (ls.take i ++ [(l0 :: tl).take (j + 1)]) W) :
    W.cell? ⟨gc, 3, none⟩ = some (.pointer (some ⟨gp, 0, none⟩)) ∧ Calls Try.prog 36 #[.pointer (some ⟨gp, 0, none⟩), .int .i64 l0, .int .i64 x] W fun e W' => ∃ b, e = .returned (.bool b) ∧ W.heap.size ≤ W'.heap.size ∧
      JI w gc ga go gi gp gm lk arcs ob ib tg cb q cB bo ls (ls.take i ++ [(l0 :: tl).take (j + 1 + 1)]) W' ∧ ∀ A l', RdI W A l' → (∀ b, A = some ⟨b, 0, none⟩ → q b) → RdI W' A l' := by
  obtain ⟨c', row', val', pb', cb', hC, hG, hK, hn, hQ⟩ := hJ
  have hlm := List.mem_of_getElem? hl
  have hsl : ∀ z ∈ l0 :: tl, z ∈ sl := fun z hz => (hgrp.al z).2 ⟨_, hlm, hz⟩
  have hxt : x ∈ tl := List.mem_of_getElem? hx
  have hxl : x ∈ l0 :: tl := List.mem_cons_of_mem _ hxt
  have hcn : ∀ z, cB z ≠ none → c' z ≠ none := fun z hz e => hz ((hG.1 z).1 e)
  have hoff : ∀ z ∈ l0 :: tl, ∀ g ∈ ls.take i, z ∉ g := fun z hz g hg hzg => by
    obtain ⟨t, ht, e⟩ := List.getElem_of_mem hg
    rw [List.length_take] at ht
    have hti : ls[t]? = some g := by
      rw [← e, List.getElem_take, List.getElem?_eq_getElem]
    have := hgrp.dj t i g (l0 :: tl) z hti hl hzg hz
    omega
  have htk : (l0 :: tl).take (j + 1 + 1) = (l0 :: tl).take (j + 1) ++ [x] := by
    rw [List.take_add_one, show (l0 :: tl)[j + 1]? = some x from hx]
    rfl
  have hxq : x ∉ (l0 :: tl).take (j + 1) := fun h => by
    have hnd : ((l0 :: tl).take (j + 1 + 1)).Nodup := ((hgrp.up _ hlm).imp (fun h => by omega)).sublist (List.take_sublist _ _)
    rw [htk, List.nodup_append] at hnd
    exact hnd.2.2 x h x (by simp) rfl
  refine ⟨hC.m.hc.cell 3 rfl, (join_step hC (Joined.refl l0) l0 x (by simp) (hcn _ (hdis l0 (hsl l0 (by simp))).1) (hcn _ (hdis x (hsl x hxl)).1) (fun z hz => hV z fun e => hz ((hG.1 z).2 e)) hVl).mono ?_⟩
  rintro e W' ⟨b, rfl, c2, row2, val2, pb2, cb2, hC3, hJ3, hk3, hcb3, -⟩
  have hpq : ∀ k, pb' k → ¬ q k := fun k hk => (hn k (hC.m.cp k hk)).2
  refine ⟨b, rfl, hk3.size, ⟨c2, row2, val2, pb2, cb2, hC3, ?_, hK.trans' hk3 fun k hk e => ((hn k (hC.m.cp k e)).1).elim id fun e => absurd hk (by omega), fun k hk => ?_, hQ.kept hk3 hpq⟩, fun A l' h hA => rd_kpt h hk3 fun b e e2 => hpq _ e2 (hA b e)⟩
  · rw [htk]
    refine GJ.step hG hJ3 (by simp) (fun z hz => hoff z (List.mem_of_mem_take hz)) (hoff x hxl) hxq fun z hz => ?_
    rcases List.mem_append.1 hz with hz | hz
    · exact hdis z (hsl z (List.mem_of_mem_take hz))
    · obtain rfl : z = x := by simpa using hz
      exact hdis z (hsl z hxl)
  · have := hk3.size
    rcases hcb3 k hk with e | ⟨e1, e2⟩
    · exact ⟨(hn k e).1.imp id fun e => ⟨e.1, by omega⟩, (hn k e).2⟩
    · refine ⟨.inr ⟨by have := hK.size; omega, e2⟩, fun e => ?_⟩
      have := hq k e
      omega
def Gth (arcs : Int → Option (Int × Int)) (cls : Int → Option Nat) (us : List Int) (AL : List (Int × Int)) : Prop := ∀ x y, (x, y) ∈ AL ↔ x ∈ us ∧ cls x = cls y ∧ ∃ e, arcs e = some (x, y)

def tb37_12.T12 : Bool × List (List Nat × List Nat) := (true, [([], []), ([0], [0]), ([1], [1]), ([2], [2]), ([], []), ([4], [4]), ([5], [5]), ([3, 6], [3, 6])])
def tb37_12.B12 : List Nat := [0, 1, 3, 7, 0, 16, 48, 127]
theorem tb37_12.tab12 : rtab .any (opsOf Try.f37 12) = tb37_12.T12 := by kernel_rfl
theorem tb37_12.bits12 : waitsOk tb37_12.T12.2 tb37_12.B12 = true := by kernel_rfl
def tb37_20.T20 : Bool × List (List Nat × List Nat) := (true, [([], []), ([0], [0]), ([1], [1]), ([2], [2]), ([], []), ([4], [4]), ([5], [5]), ([], []), ([3, 6, 7], [3, 6, 7])])
def tb37_20.B20 : List Nat := [0, 1, 3, 7, 0, 16, 48, 0, 255]
theorem tb37_20.tab20 : rtab .any (opsOf Try.f37 20) = tb37_20.T20 := by kernel_rfl
theorem tb37_20.bits20 : waitsOk tb37_20.T20.2 tb37_20.B20 = true := by kernel_rfl
set_option maxHeartbeats 16000000 in
set_option maxRecDepth 100000 in
theorem part_calls (h : CdS w gc ga go gi gp gm lk arcs ob ib cls row val tg pb cb) (V : List Int) (hV : ∀ x, cls x ≠ none → x ∈ V) (hVl : V.length ≤ 500) (hlk : 0 ≤ lk ∧ lk ≤ 1000000) (vs : List Int) (Av : Option Addr) (cv : Nat) (hvs : RdI w Av vs) (hAv : ∀ b, Av = some ⟨b, 0, none⟩ → ¬ cb b) (hnd : vs.Nodup) {b0 : Nat} {u0 : Int} (hu0 : cls u0 = some b0) (hm : ∀ x, x ∈ vs ↔ cls x = some b0) :
    Calls Try.prog 37 #[.pointer (some ⟨gc, 0, none⟩), .slice Av vs.length cv] w fun e w' => e = .returned (.tuple #[]) ∧ Kpt cb w w' ∧ ∃ cls' row' val' pb', CdS w' gc ga go gi gp gm (lk + vs.length) arcs ob ib cls' row' val' tg pb' (ext cb w w') ∧ PartP arcs cls cls' vs := by
  obtain ⟨i1, hi1, hz1, hs1, hy1⟩ := info_parts Lw.info_arc
  have hvl : vs.length ≤ V.length := nodup_le hnd fun x hx => hV x (by rw [(hm x).1 hx]; simp)
  have HX := Lib.hid (And.intro h (And.intro hV (And.intro hvs (And.intro hAv (And.intro hnd (And.intro hu0 hm))))))
  have hst : PaI w gc ga go gi gp gm lk arcs ob ib cls row val tg pb cb vs 0 0 [] (.slice none 0 0) w := ⟨Kpt.refl _ _, by simpa using h, World.ownsRow_nil _ _ _ _, by simp⟩
  have HS := Lib.hid (And.intro hst (show Gth arcs cls [] [] from fun x y => by simp))
  clear h hV hvs hAv hnd hu0 hm hst
  go_enter Try.func37, Try.ntmps37
  go_wp2_with fail
  go_loopg [4, 17] vs.length (fun kq v4 v17 w' => ∃ i : Nat, v17 = .int .i64 (i : Int) ∧ Hid (i + kq = vs.length ∧ ∃ AL, PaI w gc ga go gi gp gm lk arcs ob ib cls row val tg pb cb vs i (1000 * i) AL v4 w' ∧ Gth arcs cls (vs.take i) AL))
  case atStart => exact ⟨0, rfl, Lib.hid ⟨by omega, [], HS.out⟩⟩
  case round =>
    obtain ⟨i, rfl, hI⟩ := hrel
    obtain ⟨hik, AL, hP, hG⟩ := hI.out
    clear hI HS
    by_cases hi : i < vs.length
    · obtain ⟨k1, rfl⟩ : ∃ k1, gk = k1 + 1 := ⟨gk - 1, by omega⟩
      obtain ⟨u, hx⟩ : ∃ x, vs[i]? = some x := ⟨_, List.getElem?_eq_getElem hi⟩
      have hrd := rd_kpt HX.out.2.2.1 hP.k fun b e1 e2 => HX.out.2.2.2.1 b e1 (e2 ▸ HX.out.1.m.cc)
      obtain ⟨bl, rfl, cx⟩ := hrd i u hx
      have htk := take_next2 hx
      have hxl := List.mem_of_getElem? hx
      have i0 : (0 : Int) ≤ (i : Int) := by omega
      have i1' : (i : Int) < (vs.length : Int) := by omega
      have i2 : (vs.length : Int) ≤ 1000 := by omega
      have c4 := hP.c.m.hc.cell 4 rfl
      have f4 := hP.c.m.hc.free 4
      have huD : cls u ≠ none := by rw [(HX.out.2.2.2.2.2.2 u).1 hxl]; simp
      have l1 : 0 ≤ lk + (i : Int) ∧ lk + (i : Int) ≤ 2000000 := by omega
      obtain ⟨l0, hl0⟩ : ∃ l0, lk + (i : Int) = l0 := ⟨_, rfl⟩
      have hP2 := hP.look
      rw [hl0] at hP2 c4 l1
      have HP := Lib.hid (And.intro hP2 (And.intro hG (And.intro huD (And.intro hik (And.intro htk hxl)))))
      clear hP hP2 hG huD hrd htk hx hxl hl0 hik
      go_upto_region 5 with (fail)
      refine gen_world (fun W => PaI w gc ga go gi gp gm lk arcs ob ib cls row val tg pb cb vs (i + 1) (1000 * i) AL u4 W) HP.out.1 ?_
      clear cx c4 f4
      intro w3 hP3
      have HNX := Lib.hid (heads_calls hP3.c u HP.out.2.2.1)
      have H3 := Lib.hid hP3
      clear hP3
      go_wp2_with fail
      refine HNX.out.mono ?_
      clear HNX
      rintro e w4 ⟨vl, l, rfl, hol, hb4, hll, hlm⟩
      have hP4 := H3.out.below hb4
      have H4 := Lib.hid (And.intro hP4 (And.intro hol hlm))
      have HLL := Lib.hid hll
      have HB3 := Lib.hid H3.out.k.size
      obtain ⟨Al, cl, rfl⟩ := Lw.own_slice hol
      clear hP4 hol hlm hb4 hll H3
      go_wp2_with fail
      go_loopg [4, 32] l.length (fun kq v4 v32 w' => ∃ j : Nat, v32 = .int .i64 (j : Int) ∧ Hid (j + kq = l.length ∧ ∃ AL2, PaI w gc ga go gi gp gm lk arcs ob ib cls row val tg pb cb vs (i + 1) (1000 * i + j) AL2 v4 w' ∧ w'.ownsRow w3.heap.size 3 1 (.slice Al l.length cl) l.length (ints l) ∧ ∀ x y, (x, y) ∈ AL2 ↔ (x, y) ∈ AL ∨ (x = u ∧ y ∈ l.take j ∧ cls u = cls y)))
      case atStart => exact ⟨0, rfl, Lib.hid ⟨by omega, AL, H4.out.1, H4.out.2.1, fun x y => by simp⟩⟩
      case round =>
        obtain ⟨j, rfl, hJ⟩ := hrel
        obtain ⟨hjk, AL2, hP5, hol, hG2⟩ := hJ.out
        clear hJ
        by_cases hj : j < l.length
        · obtain ⟨k2, rfl⟩ : ∃ k2, gk = k2 + 1 := ⟨gk - 1, by omega⟩
          obtain ⟨y, hy⟩ : ∃ x, l[j]? = some x := ⟨_, List.getElem?_eq_getElem hj⟩
          obtain ⟨bh, rfl, cy⟩ := (RdI.of_own hol).1 j y hy
          have htk := take_next2 hy
          have j0 : (0 : Int) ≤ (j : Int) := by omega
          have j1' : (j : Int) < (l.length : Int) := by omega
          have j2 : (l.length : Int) ≤ 1000 := by have := HLL.out; omega
          have q3 := hP5.c.m.hc.cell 3 rfl
          obtain ⟨sb, hsb⟩ : ∃ sb, sameV cls u y = sb := ⟨_, rfl⟩
          have HC := Lib.hid (same_calls hP5.c.p u y)
          rw [show decide (cls u ≠ none ∧ cls u = cls y) = sb from hsb] at HC
          have H5 := Lib.hid (And.intro hP5 (And.intro hol (And.intro hG2 (And.intro hsb (And.intro htk hjk)))))
          clear hP5 hol hG2 hsb htk hy hjk hj
          go_wp2_with fail
          refine HC.out.mono ?_
          clear HC q3 cy
          rintro e w5 ⟨rfl, hb5⟩
          obtain ⟨hP5, hol, hG2, hsb, htk, hjk⟩ := H5.out
          have hP6 := hP5.below hb5
          have hol6 := own_below hol hb5
          cases sb with
          | false =>
            have hne : cls u ≠ cls y := fun e => (of_decide_eq_false hsb) ⟨HP.out.2.2.1, e⟩
            have HR := Lib.hid (show j + 1 + k2 = l.length ∧ ∃ AL2, PaI w gc ga go gi gp gm lk arcs ob ib cls row val tg pb cb vs (i + 1) (1000 * i + (j + 1)) AL2 _ w5 ∧ w5.ownsRow w3.heap.size 3 1 (.slice (some ⟨bh, 0, none⟩) l.length cl) l.length (ints l) ∧ ∀ x y, (x, y) ∈ AL2 ↔ (x, y) ∈ AL ∨ (x = u ∧ y ∈ l.take (j + 1) ∧ cls u = cls y) from
              ⟨by omega, AL2, ⟨hP6.k, hP6.c, hP6.r, by have := hP6.l; omega⟩, hol6, fun a b => by
                rw [hG2 a b, htk, List.mem_append, List.mem_singleton]
                constructor
                · rintro (h | ⟨h1, h2, h3⟩)
                  · exact .inl h
                  · exact .inr ⟨h1, .inl h2, h3⟩
                · rintro (h | ⟨h1, h2 | h2, h3⟩)
                  · exact .inl h
                  · exact .inr ⟨h1, h2, h3⟩
                  · exact absurd (h2 ▸ h3) hne⟩)
            clear hP5 hol hG2 hsb htk hjk hP6 hol6 hne hb5 H5 H4
            go_wp2
            go_roundg k2
            case measure => omega
            case rel => exact ⟨j + 1, by go_num, HR⟩
          | true =>
            have heq : cls u = cls y := (of_decide_eq_true hsb).2
            have hALl : AL2.length ≤ 600000 := by have := hP6.l; omega
            have HP6 := Lib.hid (And.intro hP6 (And.intro hol6 (And.intro heq (show i + 1 ≤ 501 ∧ j ≤ 1000 from ⟨by omega, by omega⟩))))
            have HG6 := Lib.hid (And.intro hG2 (And.intro htk hjk))
            clear hP5 hol hG2 hsb htk hjk hP6 hol6 heq hb5 H5 H4
            go_wp2_with ((at_builtin; refine wpList_append_any rfl (.tmp 43) (.tmp 47) 50 rfl w.heap.size 69 i1 (.agg #[.int .i64 0, .int .i64 0]) 2 16 Try.underlying50 hi1 hz1 hs1 hy1 rfl (by omega) _ _ _ rfl (HP6.out.1.r.alloc (.cells #[.int .i64 u, .int .i64 y] 69)) _ rfl 1 [.int .i64 u, .int .i64 y] (RdV.lit _ #[.int .i64 u, .int .i64 y] 69 1 2 1 rfl (by simp [Value.oneCell'])) (by unfold maxLen; omega) (by omega) (by have := HP6.out.1.k.size; simp; omega) ?_; intro v6 w6 ho hg hn; have HO6 := Lib.hid (And.intro ho hg); clear ho hg hn))
            go_roundg k2
            case measure => omega
            case rel =>
              obtain ⟨hP6, hol6, heq, _, _⟩ := HP6.out
              obtain ⟨hG2, htk, hjk⟩ := HG6.out
              obtain ⟨ho, hg⟩ := HO6.out
              have hba : Below w5.heap.size w5 (w5.alloc (.cells #[.int .i64 u, .int .i64 y] 69)) := (Below.refl _ _).alloc (Nat.le_refl _) _
              have hol7 := own_below hol6 hba
              have hr7 := own_below hP6.r hba
              refine ⟨j + 1, by go_num, Lib.hid ⟨by omega, AL2 ++ [(u, y)], ⟨(hP6.k.alloc _).grown hg (fun k hk hlt => absurd hlt (by have := (hP6.r.lt k hk).1; omega)), (hP6.c.below hba).kept (p := fun k => w.heap.size ≤ k) ((Kpt.refl _ _).grown hg (fun k hk _ => (hP6.r.lt k hk).1)) (fun k hk e => by have := HX.out.1.m.lt k hk; omega), ?_, ?_⟩, hol7.kept hg (own_types hol7 hr7 (by decide)), fun a b => ?_⟩⟩
              · rw [List.length_append, List.length_singleton, arcs2_append]
                exact ho
              · have := hP6.l
                simp
                omega
              · rw [List.mem_append, List.mem_singleton, hG2 a b, htk, List.mem_append, List.mem_singleton]
                constructor
                · rintro ((h | ⟨h1, h2, h3⟩) | h)
                  · exact .inl h
                  · exact .inr ⟨h1, .inl h2, h3⟩
                  · cases h; exact .inr ⟨rfl, .inr rfl, heq⟩
                · rintro (h | ⟨h1, h2 | h2, h3⟩)
                  · exact .inl (.inl h)
                  · exact .inl (.inr ⟨h1, h2, h3⟩)
                  · exact .inr (by rw [h1, h2])
        · obtain rfl : j = l.length := by omega
          have HR := Lib.hid (show i + 1 + k1 = vs.length ∧ ∃ AL, PaI w gc ga go gi gp gm lk arcs ob ib cls row val tg pb cb vs (i + 1) (1000 * (i + 1)) AL _ wr ∧ Gth arcs cls (vs.take (i + 1)) AL from by
            obtain ⟨_, hG, huD, hik, htk, hxl⟩ := HP.out
            refine ⟨by omega, AL2, ⟨hP5.k, hP5.c, hP5.r, by have := hP5.l; have := HLL.out; omega⟩, fun a b => ?_⟩
            rw [hG2 a b, hG a b, htk, List.take_length, List.mem_append, List.mem_singleton]
            constructor
            · rintro (⟨h1, h2, h3⟩ | ⟨h1, h2, h3⟩)
              · exact ⟨.inl h1, h2, h3⟩
              · subst h1
                exact ⟨.inr rfl, h3, (H4.out.2.2 b).1 h2⟩
            · rintro ⟨h1 | h1, h2, h3⟩
              · exact .inl ⟨h1, h2, h3⟩
              · subst h1
                exact .inr ⟨rfl, (H4.out.2.2 b).2 h3, h2⟩)
          clear hP5 hol hG2 hjk hj
          go_wp2
          go_roundg k1
          case measure => omega
          case rel => exact ⟨i + 1, by go_num, HR⟩
    · obtain rfl : i = vs.length := by omega
      have hrd := rd_kpt HX.out.2.2.1 hP.k fun b e1 e2 => HX.out.2.2.2.1 b e1 (e2 ▸ HX.out.1.m.cc)
      obtain ⟨v0, hx⟩ : ∃ x, vs[0]? = some x := by
        have : u0 ∈ vs := (HX.out.2.2.2.2.2.2 u0).2 HX.out.2.2.2.2.2.1
        have := List.length_pos_of_mem this
        exact ⟨_, List.getElem?_eq_getElem this⟩
      obtain ⟨bl, rfl, cx⟩ := hrd 0 v0 hx
      have q3 := hP.c.m.hc.cell 3 rfl
      have hv0 : cls v0 = some b0 := (HX.out.2.2.2.2.2.2 v0).1 (List.mem_of_getElem? hx)
      have hPd := hP.below (Below.refl _ _).drew
      have HC := Lib.hid (burst_calls hPd.c.p hv0 (Nat.le_trans (hPd.c.rowle HX.out.2.1 v0 b0 hv0) (by omega)))
      have i0 : 0 < vs.length := (List.getElem?_eq_some_iff.1 hx).1
      have i2 : (vs.length : Int) ≤ 1000 := by omega
      have H0 := Lib.hid (And.intro hPd (And.intro hG (And.intro hrd hv0)))
      rw [List.take_length] at H0
      clear hP hPd hG hi hik hrd hx hv0
      go_upto_region 12 with (fail)
      refine start_ (n := 8) (S := fun w' => w'.cell? ⟨gc, 3, none⟩ = some (.pointer (some ⟨gp, 0, none⟩)) ∧ w'.cell? ⟨bl, 0, none⟩ = some (.int .i64 v0)) (ds := [7]) (bA 8 0) (by kernel_rfl) rfl rfl ⟨q3, cx⟩ (fun hHeld => ?_)
      refine with_tabW tb37_12.tab12 tb37_12.bits12 (fun HT_ HW_ => ?_)
      refine pw_ 0 51 (bA 8 1) HT_.out ?_
      refine pw_ 1 52 (bA 8 3) HT_.out ?_
      refine pw_ 2 53 (bA 8 7) HT_.out ?_
      refine pw_ 4 55 (bA 8 23) HT_.out ?_
      refine pw_ 5 56 (bA 8 55) HT_.out ?_
      refine tw_ 3 54 (bA 8 63) HT_.out HW_.out hHeld (hv := by rintro w' ⟨s0, s1⟩; go_simp; with_reducible rfl) (h := ?_)
      refine tw_ 6 57 (bA 8 127) HT_.out HW_.out hHeld (hv := by rintro w' ⟨s0, s1⟩; go_simp; with_reducible rfl) (h := ?_)
      refine last_ (i := 7) (N := some 58) (bA 8 255) rfl rfl (one_of HT_.out (by kernel_rfl)) (by decide) (fun K hK => ?_)
      refine gw_ Try.func55 #[.pointer (some ⟨gp, 0, none⟩), .int .i64 v0] ?_
      with_reducible refine (HC.out).mono ?_
      rintro e wB ⟨rfl, hkB, clsB, rowB, valB, hPB, hB1, hB2⟩
      refine ⟨_, rfl, ?_⟩
      refine hK.out _ _ ?_; clear hK K
      refine norm_ (a' := ?_) ?_ ?_
      rotate_left
      · show Act.put _ (some 58) _ = _
        simp only [Act.put, pA, pB, pC, pD, pE]; rfl
      refine done_ (done_of HT_.out (by kernel_rfl)) ?_
      clear hHeld HT_ HW_
      obtain ⟨hP, hG, hrd, hv0⟩ := H0.out
      obtain ⟨h, hV, hvs, hAv, hnd, hu0, hm⟩ := HX.out
      have hrow : ∀ x, x ∈ row b0 ↔ x ∈ vs := fun x => (h.p.r.mem v0 b0 hv0 x).trans (hm x).symm
      have hBn : ∀ x, clsB x = none ↔ cls x = none := fun x => by
        by_cases e : x ∈ row b0
        · obtain ⟨b, h1, _⟩ := hB1 x e
          rw [h1, (h.p.r.mem v0 b0 hv0 x).1 e]
          simp
        · rw [(hB2 x e).1]
      have hCB := hP.c.reparts hkB hBn hPB
      have hdis : ∀ z ∈ vs, clsB z ≠ none ∧ ∀ a, clsB a = clsB z → a = z := fun z hz => by
        obtain ⟨b, h1, h2⟩ := hB1 z ((hrow z).2 hz)
        refine ⟨by rw [h1]; simp, fun a ha => ?_⟩
        have := (hPB.r.mem z b h1 a).2 (ha.trans h1)
        rw [h2] at this
        simpa using this
      have hels : ∀ x, x ∉ vs → clsB x = cls x := fun x hx => (hB2 x fun e => hx ((hrow x).1 e)).1
      have hKB : Kpt cb w wB := (hP.k.mono fun k _ e => e ▸ h.m.cc).trans (hkB.mono fun k _ => h.m.cp k)
      obtain ⟨A4, c4, rfl⟩ := Lw.own_slice hP.r
      have hAL := rdA_kpt (RdA.of_own hP.r).1 hkB fun b e e2 => by
        subst e
        have h1 := (hP.r.lt b rfl).1
        have h2 := h.p.r.lt b e2
        omega
      have hvB := rd_kpt (show RdI wr.drew _ vs from hrd) hkB fun b e e2 => hAv b e (h.m.cp b e2)
      have hgd : ∀ p ∈ AL, p.1 ∈ vs ∧ p.2 ∈ vs := fun p hp => by
        obtain ⟨h1, h2, _⟩ := (hG p.1 p.2).1 hp
        exact ⟨h1, (hm _).2 (h2.symm.trans ((hm _).1 h1))⟩
      obtain ⟨ls, hls, hgrp⟩ := ofS_grp (k := vs.length + AL.length + 1) hnd hgd (by omega) (by omega)
      have hll := hP.l
      have HC := Lib.hid (of_calls wB (some ⟨bl, 0, none⟩) A4 cv c4 (vs.length + AL.length + 1) 0 vs AL ls hvB hAL (by omega) (by omega) hls)
      have HD := Lib.hid (And.intro hdis (And.intro hels (And.intro hBn (And.intro hgrp hG))))
      have HK := Lib.hid (And.intro hCB hKB)
      have HWs := Lib.hid (show w.heap.size ≤ wr.heap.size ∧ wr.heap.size ≤ wB.heap.size ∧ ∀ k, ext cb wr.drew wB k → ext cb w wB k from ⟨hP.k.size, hkB.size, fun k hk => hk.imp id fun e => ⟨Nat.le_trans hP.k.size e.1, e.2⟩⟩)
      clear hP hG hrd hv0 h hV hvs hAv hnd hu0 hm hrow hBn hCB hdis hels hKB hAL hvB hgd hls hgrp hll hkB hPB hB1 hB2 H0 cx q3
      go_wp2_with fail
      refine HC.out.mono ?_
      clear HC
      rintro e wO ⟨hbO, _, h0⟩
      obtain ⟨bo, vals, rfl, hbo, hrows⟩ := h0 rfl
      have HJ := Lib.hid (show JI w gc ga go gi gp gm (lk + vs.length) arcs ob ib tg cb (fun k => wB.heap.size ≤ k ∧ k < wO.heap.size) clsB bo ls [] wO from
        ⟨clsB, rowB, valB, _, _, HK.out.1.below hbO, GJ.nil _, HK.out.2.below hbO, fun k hk => ⟨(HWs.out.2.2 k hk).imp id fun e => ⟨e.1, Nat.lt_of_lt_of_le e.2 hbO.size⟩, fun e => by have := HK.out.1.m.lt k hk; omega⟩, RdQ.of_rows hrows hbo⟩)
      obtain ⟨q, hq⟩ : ∃ q : Nat → Prop, (fun k => wB.heap.size ≤ k ∧ k < wO.heap.size) = q := ⟨_, rfl⟩
      have HQ := Lib.hid (show w.heap.size ≤ wB.heap.size ∧ ∀ k, q k → wB.heap.size ≤ k ∧ k < wO.heap.size from ⟨Nat.le_trans HWs.out.1 HWs.out.2.1, fun k hk => by rw [← hq] at hk; exact hk⟩)
      rw [hq] at HJ
      clear h0 hrows hbo hbO hq HK HWs
      go_wp2_with fail
      go_loopg [67] ls.length (fun kq v67 w' => ∃ i : Nat, v67 = .int .i64 (i : Int) ∧ Hid (i + kq = ls.length ∧ wO.heap.size ≤ w'.heap.size ∧ JI w gc ga go gi gp gm (lk + vs.length) arcs ob ib tg cb q clsB bo ls (ls.take i) w'))
      case atStart => exact ⟨0, rfl, Lib.hid ⟨by omega, Nat.le_refl _, HJ.out⟩⟩
      case round =>
        obtain ⟨i, rfl, hI⟩ := hrel
        obtain ⟨hik, hsz, hJ⟩ := hI.out
        clear hI HJ
        by_cases hi : i < ls.length
        · obtain ⟨k1, rfl⟩ : ∃ k1, gk = k1 + 1 := ⟨gk - 1, by omega⟩
          obtain ⟨l, hl⟩ : ∃ x, ls[i]? = some x := ⟨_, List.getElem?_eq_getElem hi⟩
          have hlm := List.mem_of_getElem? hl
          obtain ⟨c', row', val', pb', cb', hC, hGJ, hK, hn, hQ⟩ := hJ
          obtain ⟨BB, c, hcl, hrl, hqB, hcap⟩ := hQ.2 i l hl
          obtain ⟨l0, tl, rfl⟩ : ∃ l0 tl, l = l0 :: tl := List.exists_cons_of_ne_nil (HD.out.2.2.2.1.ne l hlm)
          obtain ⟨bb, rfl, cl0⟩ := hrl 0 l0 rfl
          obtain ⟨n, hn1⟩ : ∃ n, tl.length = n := ⟨_, rfl⟩
          rw [List.length_cons, hn1] at hcl hcap
          have htk : ls.take (i + 1) = ls.take i ++ [l0 :: tl] := by rw [List.take_add_one, hl]; rfl
          have i0 : (0 : Int) ≤ (i : Int) := by omega
          have i1' : (i : Int) < (ls.length : Int) := by omega
          have hJ1 : JI w gc ga go gi gp gm (lk + vs.length) arcs ob ib tg cb q clsB bo ls (ls.take i ++ [[l0]]) wr := ⟨c', row', val', pb', cb', hC, hGJ.one l0, hK, hn, hQ⟩
          have HJ1 := Lib.hid (And.intro hJ1 hsz)
          have HI := Lib.hid (And.intro hik (And.intro hl (And.intro hlm htk)))
          have n0 : (0 : Int) ≤ (n : Int) := by omega
          have n1 : (n : Int) + 1 ≤ (c : Int) := by omega
          have hll : ls.length ≤ 1000 := by have := HD.out.2.2.2.1.len; rw [sorted_length] at this; omega
          have hnl : n ≤ 1000 := by have := HD.out.2.2.2.1.row hlm; rw [sorted_length, List.length_cons, hn1] at this; omega
          obtain ⟨N1, hN1⟩ : ∃ N1, n + 1 = N1 := ⟨_, rfl⟩
          rw [hN1] at hcl
          have m1 : (1 : Int) ≤ (N1 : Int) := by omega
          have m2 : (N1 : Int) ≤ (c : Int) := by omega
          have HRL := Lib.hid (And.intro hrl hqB)
          clear hC hGJ hK hn hQ hJ1 hrl hqB hcap hi hik hl hlm htk hsz cl0
          by_cases hc1 : c = 1
          · subst hc1
            obtain rfl : N1 = 1 := by omega
            obtain rfl : n = 0 := by omega
            obtain rfl := List.length_eq_zero_iff.1 hn1
            clear n0 n1 m1 m2 hN1 hnl
            go_wp2_with fail
            go_loopg [74] 1 (fun kq v74 w' => v74 = .int .i64 0 ∧ w' = wr ∧ kq = 1)
            case atStart => exact ⟨rfl, rfl, rfl⟩
            case round =>
              obtain ⟨rfl, rfl, rfl⟩ := hrel
              go_wp2
              go_roundg k1
              case measure => omega
              case rel =>
                obtain ⟨hik, hl, hlm, htk⟩ := HI.out
                exact ⟨i + 1, by go_num, Lib.hid ⟨by omega, HJ1.out.2, by rw [htk]; exact HJ1.out.1⟩⟩
          · go_wp2_with fail
            go_loopg [74] n (fun kq v74 w' => ∃ j : Nat, v74 = .int .i64 (j : Int) ∧ Hid (j + kq = n ∧ wO.heap.size ≤ w'.heap.size ∧ JI w gc ga go gi gp gm (lk + vs.length) arcs ob ib tg cb q clsB bo ls (ls.take i ++ [(l0 :: tl).take (j + 1)]) w' ∧ RdI w' (some ⟨bb, 0, none⟩) (l0 :: tl)))
            case atStart => exact ⟨0, rfl, Lib.hid ⟨by omega, HJ1.out.2, HJ1.out.1, HRL.out.1⟩⟩
            case round =>
              obtain ⟨j, rfl, hI⟩ := hrel
              obtain ⟨hjk, hsz, hJ, hrl⟩ := hI.out
              clear hI
              by_cases hj : j < n
              · obtain ⟨k2, rfl⟩ : ∃ k2, gk = k2 + 1 := ⟨gk - 1, by omega⟩
                obtain ⟨x, hx⟩ : ∃ x, tl[j]? = some x := ⟨_, List.getElem?_eq_getElem (by omega)⟩
                obtain ⟨_, hbb, cx⟩ := hrl (j + 1) x hx
                cases hbb
                have cx : wr.cell? ⟨bb, 1 + j, none⟩ = some (.int .i64 x) := by rw [Nat.add_comm]; exact cx
                obtain ⟨_, hbb, cl0⟩ := hrl 0 l0 rfl
                cases hbb
                obtain ⟨q3, HCj⟩ := ji_join (W := wr.drew) HD.out.2.2.2.1 HI.out.2.1 hx (fun z hz => HD.out.1 z (List.mem_mergeSort.1 hz)) (fun z hz => HX.out.2.1 z fun e => hz ((HD.out.2.2.1 z).2 e)) hVl HQ.out.2 hsz hJ.drew
                have HC := Lib.hid HCj
                have H9 := Lib.hid (And.intro hsz (And.intro hrl hjk))
                have m0 : 0 < N1 := by omega
                have j0 : (0 : Int) ≤ (j : Int) := by omega
                have j1' : (j : Int) < (n : Int) := by omega
                have j2 : (n : Int) = (N1 : Int) - 1 := by omega
                clear HCj hJ hrl hx hsz hjk hj
                go_upto_region 20 with (fail)
                refine start_ (n := 9) (S := fun w' => w'.cell? ⟨gc, 3, none⟩ = some (.pointer (some ⟨gp, 0, none⟩)) ∧ w'.cell? ⟨bb, 0, none⟩ = some (.int .i64 l0)) (ds := [8]) (bA 9 0) (by kernel_rfl) rfl rfl ⟨q3, cl0⟩ (fun hHeld => ?_)
                refine with_tabW tb37_20.tab20 tb37_20.bits20 (fun HT_ HW_ => ?_)
                refine pw_ 0 78 (bA 9 1) HT_.out ?_
                refine pw_ 1 79 (bA 9 3) HT_.out ?_
                refine pw_ 2 80 (bA 9 7) HT_.out ?_
                refine pw_ 4 82 (bA 9 23) HT_.out ?_
                refine pw_ 5 83 (bA 9 55) HT_.out ?_
                refine pw_ 7 85 (bA 9 183) HT_.out ?_
                refine tw_ 3 81 (bA 9 191) HT_.out HW_.out hHeld (hv := by rintro w' ⟨s0, s1⟩; go_simp; with_reducible rfl) (h := ?_)
                refine tw_ 6 84 (bA 9 255) HT_.out HW_.out hHeld (hv := by rintro w' ⟨s0, s1⟩; go_simp; with_reducible rfl) (h := ?_)
                refine last_ (i := 8) (N := some 86) (bA 9 511) rfl rfl (one_of HT_.out (by kernel_rfl)) (by decide) (fun K hK => ?_)
                refine gw_ Try.func36 #[.pointer (some ⟨gp, 0, none⟩), .int .i64 l0, .int .i64 x] ?_
                with_reducible refine (HC.out).mono ?_
                rintro e w3 ⟨jb, rfl, hs3, hJ3, hr3⟩
                refine ⟨_, rfl, ?_⟩
                refine hK.out _ _ ?_; clear hK K
                refine norm_ (a' := ?_) ?_ ?_
                rotate_left
                · show Act.put _ (some 86) _ = _
                  simp only [Act.put, pA, pB, pC, pD, pE]; rfl
                refine done_ (done_of HT_.out (by kernel_rfl)) ?_
                clear hHeld HT_ HW_
                obtain ⟨hsz, hrl, hjk⟩ := H9.out
                have HR := Lib.hid (show j + 1 + k2 = n ∧ wO.heap.size ≤ w3.heap.size ∧ JI w gc ga go gi gp gm (lk + vs.length) arcs ob ib tg cb q clsB bo ls (ls.take i ++ [(l0 :: tl).take (j + 1 + 1)]) w3 ∧ RdI w3 (some ⟨bb, 0, none⟩) (l0 :: tl) from
                  ⟨by omega, Nat.le_trans hsz hs3, hJ3, hr3 _ _ hrl HRL.out.2⟩)
                clear hsz hrl hjk hs3 hJ3 hr3 H9 HC q3 cl0 cx
                go_wp2
                go_roundg k2
                case measure => omega
                case rel => exact ⟨j + 1, by go_num, HR⟩
              · obtain rfl : j = n := by omega
                have HR := Lib.hid (show i + 1 + k1 = ls.length ∧ wO.heap.size ≤ wr.heap.size ∧ JI w gc ga go gi gp gm (lk + vs.length) arcs ob ib tg cb q clsB bo ls (ls.take (i + 1)) wr from by
                  obtain ⟨hik, hl, hlm, htk⟩ := HI.out
                  refine ⟨by omega, hsz, ?_⟩
                  rw [htk]
                  rwa [show (l0 :: tl).take (j + 1) = l0 :: tl from List.take_of_length_le (by rw [List.length_cons]; omega)] at hJ)
                have j2 : (j : Int) = (N1 : Int) - 1 := by omega
                clear hJ hrl hsz hjk hj
                go_wp2
                go_roundg k1
                case measure => omega
                case rel => exact ⟨i + 1, by go_num, HR⟩
        · obtain rfl : i = ls.length := by omega
          rw [List.take_length] at hJ
          have HJ := Lib.hid hJ
          have hll : ls.length ≤ 1000 := by have := HD.out.2.2.2.1.len; rw [sorted_length] at this; omega
          clear hJ hsz hik hi
          go_wp2
          go_end0
          obtain ⟨c', row', val', pb', cb', hC, hGJ, hK, hn, _⟩ := HJ.out
          refine ⟨rfl, hK, c', row', val', pb', hC.mono (fun k hk => (hn k hk).1) (fun k hk => hk.elim (fun e => Nat.lt_of_lt_of_le (HX.out.1.m.lt k e) hK.size) fun e => e.2), ?_⟩
          obtain ⟨hdis, hels, hBn, hgrp, hG⟩ := HD.out
          exact part_plain (fun x => List.mem_mergeSort) hG hgrp hBn hdis hels hGJ
end
end Go.Proofs.Ythomnpgpbhpojaa.Cd
