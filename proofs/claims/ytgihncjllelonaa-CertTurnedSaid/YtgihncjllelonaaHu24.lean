/- cert: back. -/
import Derived.Test.YtgihncjllelonaaHu22
import Derived.Test.YtgihncjllelonaaHu17
import Derived.Test.YtgihncjllelonaaHu12
import Derived.Test.YtgihncjllelonaaHu5
import Derived.Test.YtgihncjllelonaaHu23
namespace Go.Proofs.Ytgihncjllelonaa.Ce
open Go Go.RowKit Go.MapKept Go.Proofs.Ytgihncjllelonaa.Mem Go.Proofs.Ytgihncjllelonaa.Sl Go.Proofs.Ytgihncjllelonaa.Lw Go.Proofs.Ytgihncjllelonaa.Wt Go.Proofs.Ytgihncjllelonaa.Tb Go.Proofs.YtgihncjllelonaaW.PrintWords Go.Proofs.YtgihncjllelonaaW.PrintLast
attribute [local go_sem ↓] Go.wp_at_zero Go.wp_at_succ
set_option linter.unusedSimpArgs false
set_option linter.unusedVariables false

def seenF (S : List Int) : Int → Option Value := fun x => if x ∈ S then some (.int .i64 1) else none
theorem seenF_add (S : List Int) (x : Int) : updV (seenF S) x (some (.int .i64 1)) = seenF (S ++ [x]) := by
  funext y
  unfold updV seenF
  by_cases e : y = x
  · rw [if_pos e, if_pos (by simp [e])]
  · rw [if_neg e]
    by_cases e2 : y ∈ S
    · rw [if_pos e2, if_pos (by simp [e2])]
    · rw [if_neg e2, if_neg (by simp [e, e2])]
theorem seenF_yes {S : List Int} {x : Int} (h : x ∈ S) : (seenF S x).getD (.int .i64 0) = .int .i64 1 := by simp [seenF, h]
theorem seenF_no {S : List Int} {x : Int} (h : x ∉ S) : (seenF S x).getD (.int .i64 0) = .int .i64 0 := by simp [seenF, h]
theorem zero_int : ∀ w : World, (zeroValue 3).run Try.prog w = .ok (.int .i64 0) w := fun w => by kernel_rfl
theorem look_seen {w : World} {b : Nat} {f : Int → Option Value} (h : MQ w b f) (x : Int) : (Instr.lookup 72 (.map (some b)) (.int .i64 x) false).run Try.prog w = .ok ((f x).getD (.int .i64 0)) w :=
  h.lookup Try.underlying72 Try.underlying3 zero_int x
theorem fld_d1 : ∀ (w : World) (a b c d : Value), (Instr.field 43 (.agg #[a, b, c, d]) 1).run Try.prog w = .ok b w := fun w a b c d => by kernel_rfl
theorem fld_d3 : ∀ (w : World) (a b c d : Value), (Instr.field 43 (.agg #[a, b, c, d]) 3).run Try.prog w = .ok d w := fun w a b c d => by kernel_rfl
theorem fld_e1 : ∀ (w : World) (a b c d : Value), (Instr.field 55 (.agg #[a, b, c, d]) 1).run Try.prog w = .ok b w := fun w a b c d => by kernel_rfl
theorem run_mkI (w : World) : (Instr.makeMap 72 none).run Try.prog w = .ok (.map (some w.heap.size)) (w.alloc (.map #[] 0)) := rfl
theorem seen_put {w : World} {b : Nat} {S : List Int} (h : MQ w b (seenF S)) (x : Int) : ∃ o, (Instr.mapUpdate 72 (.map (some b)) (.int .i64 x) (.int .i64 1)).run Try.prog w = .ok () (putObj w b o) ∧ MQ (putObj w b o) b (seenF (S ++ [x])) := by
  obtain ⟨o, hr, hm⟩ := h.update (P := Try.prog) (T := 72) Try.underlying72 Try.underlying3 x (.int .i64 1)
  exact ⟨o, hr, seenF_add S x ▸ hm⟩

def nextU (ds : List Ds) (es : List Ed) (u : Int) : Int := (eD es (dD ds u).2.2.2).2.1
def wayS (ds : List Ds) (es : List Ed) (G : List Int) (n : Nat) : Nat → Int → List Int → Option (List Int)
  | 0, _, _ => none
  | k + 1, u, way => if u ∈ G ∨ (dD ds u).2.1 = true then some way else if n < way.length + 1 then none else wayS ds es G n k (nextU ds es u) (way ++ [u])
def backS (ds : List Ds) (es : List Ed) (n : Nat) : List Int → List Int → Bool
  | [], _ => true
  | v :: r, G => match wayS ds es G n (n + 1) v [] with
    | none => false
    | some way => backS ds es n r (G ++ way)
structure Bk (w1 W : World) (mg : Nat) (G : List Int) : Prop where
  k : Kpt (fun k => k = mg ∨ w1.heap.size ≤ k) w1 W
  m : MQ W mg (seenF G)
  l : mg < w1.heap.size
section
variable {w w1 W W' : World} {mg g md me n : Nat} {G : List Int} {ds : List Ds} {es : List Ed} {A : Option Addr} {vs : List Int}
theorem Bk.below (h : Bk w1 W mg G) (hb : Below W.heap.size W W') : Bk w1 W' mg G := ⟨h.k.below hb, h.m.below hb h.m.lt, h.l⟩
theorem Bk.at_ (h : Bk w1 W mg G) {cs : List Value} {T : TypeId} (ha : At w1 g cs T) (hn : g ≠ mg) : At W g cs T := ha.kept h.k fun hh => hh.elim hn fun hh => by have := ha.lt; omega
theorem Bk.cm (h : Bk w1 W mg G) (hc : Cm w1 md me ds es) (h1 : md ≠ mg) (h2 : me ≠ mg) : Cm W md me ds es :=
  ⟨hc.dm.move (h.k.block md hc.dm.lt fun hh => hh.elim h1 fun hh => by have := hc.dm.lt; omega), hc.em.move (h.k.block me hc.em.lt fun hh => hh.elim h2 fun hh => by have := hc.em.lt; omega), hc.db, hc.eb⟩
theorem Bk.rd (h : Bk w1 W mg G) (hr : RdI w1 A vs) (hm : ∃ f, MQ w1 mg f) : RdI W A vs := fun j x hx => by
  obtain ⟨b, e1, e2⟩ := hr j x hx
  obtain ⟨f, hf⟩ := hm
  exact ⟨b, e1, cell_kept h.k e2 fun hh => hh.elim (cell_not_map hf e2) fun hh => by have := World.block_lt_of_cell? _ _ e2; dsimp only at this hh; omega⟩
theorem Bk.grown {row : Value} {base s k : Nat} {xs : List Value} {T : TypeId} (h : Bk w1 W mg G) (hr : W.ownsRow base T s row k xs) (hb : w1.heap.size ≤ base) (hg : W.grownBy W' row.ownBlock) : Bk w1 W' mg G :=
  ⟨h.k.grown hg fun k hk _ => .inr (Nat.le_trans hb (hr.lt k hk).1), h.m.grown hg (h.m.own hr), h.l⟩
theorem Bk.put (h : Bk w1 W mg G) {o : Obj} {x : Int} (hm : MQ (putObj W mg o) mg (seenF (G ++ [x]))) : Bk w1 (putObj W mg o) mg (G ++ [x]) :=
  ⟨h.k.trans ⟨rfl, rfl, rfl, by rw [putObj_size]; exact Nat.le_refl _, fun k _ hn => putObj_far fun e => hn (.inl e)⟩, hm, h.l⟩
end
set_option maxHeartbeats 16000000 in
set_option maxRecDepth 100000 in
theorem back_calls (w : World) (s : Int) (md me cv : Nat) (ds : List Ds) (es : List Ed) (A : Option Addr) (vs : List Int) (h : Cm w md me ds es) (hv : RdI w A vs) (hl : vs.length ≤ 1000) : Calls Try.prog 41 #[.agg #[.int .i64 s, .map (some md), .map (some me)], .slice A vs.length cv] w fun e w' => e = .returned (.bool (backS ds es vs.length vs [s])) ∧ Below w.heap.size w w' := by
  obtain ⟨i1, hi1', hz1, hs1, hy1⟩ := info_parts Lw.info_int
  obtain ⟨n, hn⟩ : ∃ n, vs.length = n := ⟨_, rfl⟩
  rw [hn] at hl ⊢
  obtain ⟨ans, hans⟩ : ∃ a, backS ds es n vs [s] = a := ⟨_, rfl⟩
  rw [hans]
  have HH := Lib.hid (And.intro h (And.intro hv (And.intro hn hans)))
  have h1 := run_mkI
  obtain ⟨o, hr, hm⟩ := seen_put (S := []) (show MQ ((w.alloc (.cells #[.int .i64 s, .map (some md), .map (some me)] 87)).alloc (.map #[] 0)) (w.heap.size + 1) (seenF []) from by
    have := MQ.new (w.alloc (.cells #[.int .i64 s, .map (some md), .map (some me)] 87))
    have e0 : seenF [] = fun _ => none := by funext x; simp [seenF]
    rw [e0]
    simpa using this) s
  have HM := Lib.hid hm
  clear h hv hn hans hm
  go_enter Try.func41, Try.ntmps41
  go_upto_block 0 with (fail)
  clear h1 hr
  obtain ⟨w1, hw1⟩ : ∃ W, putObj ((w.alloc (.cells #[.int .i64 s, .map (some md), .map (some me)] 87)).alloc (.map #[] 0)) (w.heap.size + 1) o = W := ⟨_, rfl⟩
  have hb0 : Below w.heap.size w ((w.alloc (.cells #[.int .i64 s, .map (some md), .map (some me)] 87)).alloc (.map #[] 0)) := ((Below.refl _ _).alloc (Nat.le_refl _) _).alloc (by simp) _
  have hb1 : Below w.heap.size w w1 := hw1 ▸ ⟨hb0.os, hb0.tape, hb0.output, by rw [putObj_size]; exact hb0.size, fun k hk => (putObj_far (by omega)).trans (hb0.block k hk)⟩
  have hat : At w1 w.heap.size [.int .i64 s, .map (some md), .map (some me)] 87 := hw1 ▸ ((At.made (w := w) (a := #[.int .i64 s, .map (some md), .map (some me)]) rfl rfl).al).putObj (by omega)
  have hsz : w1.heap.size = w.heap.size + 2 := by rw [← hw1, putObj_size]; simp
  rw [hw1] at HM ⊢
  obtain ⟨g2, hg2⟩ : ∃ g, w.heap.size = g := ⟨_, rfl⟩
  obtain ⟨mg, hmg⟩ : ∃ g, g2 + 1 = g := ⟨_, rfl⟩
  rw [hg2, hmg] at HM ⊢
  rw [hg2] at hat
  have hB1 : Bk w1 w1 mg [s] := ⟨Kpt.refl _ _, HM.out, by omega⟩
  have hc1 := HH.out.1.below hb1
  have hv1 := HH.out.2.1.below hb1
  have hmd := HH.out.1.dm.lt
  have hme := HH.out.1.em.lt
  have HB1 := Lib.hid hB1
  have HC := Lib.hid (And.intro hat (And.intro hc1 (And.intro hv1 (And.intro (show g2 ≠ mg by omega) (And.intro (show md ≠ mg by omega) (And.intro (show me ≠ mg by omega) (And.intro HM.out hb1)))))))
  have HX := Lib.hid (And.intro HH.out.2.2.1 HH.out.2.2.2)
  have HG := Lib.hid (And.intro hg2 (And.intro hmg hsz))
  clear hw1 hb0 hb1 hat hsz hg2 hmg hB1 hc1 hv1 hmd hme HM HH
  go_wp2_with fail
  go_loopg [18] (n + 1) (fun kq v18 w' => ∃ j : Nat, v18 = .int .i64 (j : Int) ∧ Hid (j + kq = n + 1 ∧ j ≤ n ∧ ∃ G, Bk w1 w' mg G ∧ backS ds es n (vs.drop j) G = ans))
  case atStart => exact ⟨0, rfl, Lib.hid ⟨by omega, by omega, _, HB1.out, by rw [List.drop_zero]; exact HX.out.2⟩⟩
  case round =>
    obtain ⟨j, rfl, hI⟩ := hrel
    obtain ⟨hjk, hjn, G, hB, hS⟩ := hI.out
    clear hI HB1
    by_cases hj : j < n
    · obtain ⟨k1, rfl⟩ : ∃ k1, gk = k1 + 1 := ⟨gk - 1, by omega⟩
      obtain ⟨v, hx⟩ : ∃ x, vs[j]? = some x := ⟨_, List.getElem?_eq_getElem (by have := HX.out.1; omega)⟩
      have hdrop : vs.drop j = v :: vs.drop (j + 1) := by
        obtain ⟨e1, e2⟩ := List.getElem?_eq_some_iff.1 hx
        rw [← e2]
        exact (List.getElem_cons_drop e1).symm
      rw [hdrop, backS] at hS
      obtain ⟨gv, hgv, cx⟩ := (hB.rd HC.out.2.2.1 ⟨_, HC.out.2.2.2.2.2.2.1⟩) j v hx
      subst hgv
      have j0 : (0 : Int) ≤ (j : Int) := by omega
      have j1 : (j : Int) < (n : Int) := by omega
      have HB := Lib.hid hB
      have HS := Lib.hid hS
      have HJ := Lib.hid hjk
      clear hB hS hx hdrop hjk hjn hj
      go_upto_block 2 with (fail)
      clear cx
      go_cut [8, 9] from 23 to 52 (fun s8 s9 wx => ∃ way Aw cw nw, s8 = .slice Aw nw cw ∧ Hid (way.length = nw ∧ nw ≤ n ∧ Bk w1 wx mg G ∧ wx.ownsRow w1.heap.size 3 1 (.slice Aw nw cw) nw (ints way) ∧ wayS ds es G n (n + 1) v [] = some way))
      case first =>
        go_wp2_with fail
        go_loopg [8, 9] (n + 1) (fun kq v8 v9 w' => ∃ (way : List Int) (u : Int) (Aw : Option Addr) (cw nw : Nat), v8 = .slice Aw nw cw ∧ v9 = .int .i64 u ∧ Hid (way.length = nw ∧ nw + kq = n + 1 ∧ nw ≤ n ∧ Bk w1 w' mg G ∧ w'.ownsRow w1.heap.size 3 1 (.slice Aw nw cw) nw (ints way) ∧ wayS ds es G n kq u way = wayS ds es G n (n + 1) v []))
        case atStart => exact ⟨[], v, none, 0, 0, rfl, rfl, Lib.hid ⟨rfl, by omega, by omega, HB.out, World.ownsRow_nil _ _ _ _, rfl⟩⟩
        case round =>
          obtain ⟨way, u, Aw, cw, nw, rfl, rfl, hI⟩ := hrel
          obtain ⟨hwl, hnk, hnn, hB, ho, hW⟩ := hI.out
          clear hI HB
          obtain ⟨k2, rfl⟩ : ∃ k2, gk = k2 + 1 := ⟨gk - 1, by omega⟩
          rw [wayS] at hW
          have lg := look_seen hB.m u
          by_cases hG : u ∈ G
          · rw [seenF_yes hG] at lg
            rw [if_pos (.inl hG)] at hW
            have HZ := Lib.hid (And.intro hwl (And.intro hnn (And.intro hB (And.intro ho hW.symm))))
            clear hwl hnk hnn hB ho hW hG
            go_wp2_with fail
            go_meet
            exact ⟨_, _, _, _, rfl, HZ⟩
          · rw [seenF_no hG] at lg
            have q1 := (hB.at_ HC.out.1 HC.out.2.2.2.1).cell 1 rfl
            have hcm := hB.cm HC.out.2.1 HC.out.2.2.2.2.1 HC.out.2.2.2.2.2.1
            have ld := hcm.dlook u
            have f1 := fld_d1
            have f2 := fld_d3
            have f3 := fld_e1
            cases hf : (dD ds u).2.1 with
            | true =>
              rw [hf] at ld
              rw [if_pos (.inr hf)] at hW
              have HZ := Lib.hid (And.intro hwl (And.intro hnn (And.intro hB (And.intro ho hW.symm))))
              clear hwl hnk hnn hB ho hW hG hcm hf
              go_wp2_with fail
              go_meet
              exact ⟨_, _, _, _, rfl, HZ⟩
            | false =>
              rw [hf] at ld
              rw [if_neg (fun hh => hh.elim hG fun h2 => by rw [hf] at h2; cases h2), hwl] at hW
              have HO := Lib.hid (And.intro ho (And.intro hwl hnk))
              have HB := Lib.hid hB
              by_cases hlt : n < nw + 1
              · rw [if_pos hlt] at hW
                have hS := HS.out
                rw [← hW] at hS
                have HA := Lib.hid (show false = ans from hS)
                have hi1 : (n : Int) < (nw : Int) + 1 := by omega
                have hi2 : ((nw + 1 : Nat) : Int) > (n : Int) := by omega
                have hnw : nw ≤ 1000 := by omega
                clear hwl hnk hnn hB ho hW hG hcm hf hlt hS
                go_wp2_with ((at_builtin; refine wpList_append_any rfl (.tmp 44) (.tmp 46) 22 rfl w1.heap.size 3 i1 (.int .i64 0) 1 8 Try.underlying22 hi1' hz1 hs1 hy1 rfl (by omega) _ _ _ rfl (HO.out.1.alloc (.cells #[.int .i64 u] 3)) _ rfl 1 [.int .i64 u] (RdV.lit _ #[.int .i64 u] 3 1 1 1 rfl (by simp [Value.oneCell'])) (by unfold maxLen; omega) (by omega) (by have := HB.out.k.size; simp; omega) ?_; intro v7 w7 ho hg hn; have HB7 := Lib.hid (And.intro ((HB.out.below ((Below.refl _ _).alloc (Nat.le_refl _) (.cells #[.int .i64 u] 3))).grown (HO.out.1.alloc (.cells #[.int .i64 u] 3)) (Nat.le_refl _) hg) ho); obtain ⟨A7, c7, rfl⟩ := Lw.own_slice ho; clear ho hg hn; have HK7 := Lib.hid HB7.out.1.k))
                have hbk := (HC.out.2.2.2.2.2.2.2.trans (HK7.out.to_below fun i hi => ⟨by have := HG.out.2.2; have := HG.out.1; omega, fun hh => by have := HG.out.2.2; have := HG.out.1; have := HG.out.2.1; omega⟩))
                have HBE := Lib.hid hbk
                clear hbk HB7 HK7
                go_ret
                exact ⟨by rw [← HA.out]; rfl, HBE.out⟩
              · rw [if_neg hlt] at hW
                have hi1 : ¬ ((n : Int) < (nw : Int) + 1) := by omega
                have hi2 : ¬ (((nw + 1 : Nat) : Int) > (n : Int)) := by omega
                have hnw : nw + 1 ≤ 1000 := by omega
                have HW := Lib.hid hW
                clear hwl hnk hnn hB ho hW hG hcm hf
                go_wp2_with ((at_builtin; refine wpList_append_any rfl (.tmp 44) (.tmp 46) 22 rfl w1.heap.size 3 i1 (.int .i64 0) 1 8 Try.underlying22 hi1' hz1 hs1 hy1 rfl (by omega) _ _ _ rfl (HO.out.1.alloc (.cells #[.int .i64 u] 3)) _ rfl 1 [.int .i64 u] (RdV.lit _ #[.int .i64 u] 3 1 1 1 rfl (by simp [Value.oneCell'])) (by unfold maxLen; omega) (by omega) (by have := HB.out.k.size; simp; omega) ?_; intro v7 w7 ho hg hn; have HB7 := Lib.hid (And.intro ((HB.out.below ((Below.refl _ _).alloc (Nat.le_refl _) (.cells #[.int .i64 u] 3))).grown (HO.out.1.alloc (.cells #[.int .i64 u] 3)) (Nat.le_refl _) hg) ho); obtain ⟨A7, c7, rfl⟩ := Lw.own_slice ho; clear ho hg hn; have p1 := (HB7.out.1.at_ HC.out.1 HC.out.2.2.2.1).cell 1 rfl; have p2 := (HB7.out.1.at_ HC.out.1 HC.out.2.2.2.1).cell 2 rfl; have p3 := (HB7.out.1.cm HC.out.2.1 HC.out.2.2.2.2.1 HC.out.2.2.2.2.2.1).dlook u; have p4 := (HB7.out.1.cm HC.out.2.1 HC.out.2.2.2.2.1 HC.out.2.2.2.2.2.1).elook1 (dD ds u).2.2.2))
                go_roundg k2
                case measure => omega
                case rel =>
                  exact ⟨way ++ [u], nextU ds es u, A7, c7, nw + 1, rfl, rfl, Lib.hid ⟨by rw [List.length_append, HO.out.2.1]; rfl, by have := HO.out.2.2; omega, by omega, HB7.out.1, by rw [← ints_snoc]; exact HB7.out.2, HW.out⟩⟩
      case rest =>
        obtain ⟨way, Aw, cw, nw, rfl, hI⟩ := hcut
        rename World => w8
        have HI := Lib.hid (And.intro hI.out.1 (And.intro hI.out.2.1 hI.out.2.2.2.2))
        have HR := Lib.hid (And.intro hI.out.2.2.1 hI.out.2.2.2.1)
        clear hI HB
        go_wp2_with fail
        go_loopg [55] (nw + 1) (fun kq v55 w' => ∃ i : Nat, v55 = .int .i64 (i : Int) ∧ Hid (i + kq = nw + 1 ∧ i ≤ nw ∧ Bk w1 w' mg (G ++ way.take i) ∧ w'.ownsRow w1.heap.size 3 1 (.slice Aw nw cw) nw (ints way)))
        case atStart => exact ⟨0, rfl, Lib.hid ⟨by omega, by omega, by rw [List.take_zero, List.append_nil]; exact HR.out.1, HR.out.2⟩⟩
        case round =>
          obtain ⟨i, rfl, hI⟩ := hrel
          obtain ⟨hik, hin, hB, ho⟩ := hI.out
          clear hI HR
          by_cases hi : i < nw
          · obtain ⟨k3, rfl⟩ : ∃ k3, gk = k3 + 1 := ⟨gk - 1, by omega⟩
            obtain ⟨x, hx⟩ : ∃ x, way[i]? = some x := ⟨_, List.getElem?_eq_getElem (by have := HI.out.1; omega)⟩
            obtain ⟨gw, hgw, cx⟩ := (RdI.of_own ho).1 i x hx
            subst hgw
            obtain ⟨o2, hr2, hm2⟩ := seen_put hB.m x
            have i0 : (0 : Int) ≤ (i : Int) := by omega
            have i1' : (i : Int) < (nw : Int) := by omega
            have i2' : i + 1 ≤ 1000 := by have := HI.out.2.1; omega
            have HY := Lib.hid (show i + 1 + k3 = nw + 1 ∧ i + 1 ≤ nw ∧ Bk w1 (putObj wr mg o2) mg (G ++ way.take (i + 1)) ∧ (putObj wr mg o2).ownsRow w1.heap.size 3 1 (.slice (some ⟨gw, 0, none⟩) nw cw) nw (ints way) from by
              refine ⟨by omega, by omega, ?_, own_putObj ho hB.l⟩
              have := hB.put hm2
              rwa [List.append_assoc, show way.take i ++ [x] = way.take (i + 1) from by rw [List.take_add_one, hx]; rfl] at this)
            clear hik hin hB ho hi hx hm2
            go_wp2
            go_roundg k3
            case measure => omega
            case rel => exact ⟨i + 1, by go_num, HY⟩
          · obtain rfl : i = nw := by omega
            have hin2 : ¬ ((i : Int) < (i : Int)) := by omega
            rw [List.take_of_length_le (by have := HI.out.1; omega)] at hB
            have hS := HS.out
            rw [HI.out.2.2] at hS
            have HY := Lib.hid (show j + 1 + k1 = n + 1 ∧ j + 1 ≤ n ∧ ∃ G, Bk w1 wr mg G ∧ backS ds es n (vs.drop (j + 1)) G = ans from ⟨by have := HJ.out; omega, by omega, _, hB, hS⟩)
            clear hB ho hS hik hin hi HS HJ HI
            go_wp2
            go_roundg k1
            case measure => omega
            case rel => exact ⟨j + 1, by go_num, HY⟩
    · obtain rfl : j = n := by omega
      have jn : ¬ ((j : Int) < (j : Int)) := by omega
      rw [List.drop_eq_nil_of_le (by have := HX.out.1; omega), backS] at hS
      have hbk := (HC.out.2.2.2.2.2.2.2.trans (hB.k.to_below fun i hi => ⟨by have := HG.out.2.2; have := HG.out.1; omega, fun hh => by have := HG.out.2.2; have := HG.out.1; have := HG.out.2.1; omega⟩))
      have HZ := Lib.hid (And.intro hS hbk)
      clear hB hS hjk hjn hj hbk
      go_wp2
      go_ret
      exact ⟨by rw [← HZ.out.1]; rfl, HZ.out.2⟩
end Go.Proofs.Ytgihncjllelonaa.Ce

/- cert: reached. -/
namespace Go.Proofs.Ytgihncjllelonaa.Ce
open Go Go.RowKit Go.MapKept Go.Proofs.Ytgihncjllelonaa.Mem Go.Proofs.Ytgihncjllelonaa.Sl Go.Proofs.Ytgihncjllelonaa.Lw Go.Proofs.Ytgihncjllelonaa.Om Go.Proofs.YtgihncjllelonaaW.PrintWords Go.Proofs.YtgihncjllelonaaW.PrintLast
attribute [local go_sem ↓] Go.wp_at_zero Go.wp_at_succ
set_option linter.unusedSimpArgs false
set_option linter.unusedVariables false

inductive Cl (N : Int → Int → Prop) (a : Int) : Int → Prop
  | base : Cl N a a
  | step {x y : Int} : Cl N a x → N x y → Cl N a y
theorem seenF_eq {S T : List Int} (h : ∀ x, x ∈ S ↔ x ∈ T) : seenF S = seenF T := by
  funext x
  unfold seenF
  by_cases e : x ∈ S
  · rw [if_pos e, if_pos ((h x).1 e)]
  · rw [if_neg e, if_neg (fun h2 => e ((h x).2 h2))]
theorem mem_app_swap {D O : List Int} {u x : Int} : x ∈ D ++ (O ++ [u]) ↔ x ∈ (D ++ [u]) ++ O := by simp [or_comm, or_left_comm, or_assoc]
theorem nodup_swap {D O : List Int} {u : Int} (h : (D ++ (O ++ [u])).Nodup) : ((D ++ [u]) ++ O).Nodup := by
  refine (List.Perm.nodup_iff ?_).1 h
  rw [List.append_assoc]
  exact List.Perm.append_left D List.perm_append_comm
theorem own_less {w : World} {B g n cap : Nat} {T : TypeId} {xs : List Value} {x : Value} (h : w.ownsRow B T 1 (.slice (some ⟨g, 0, none⟩) (n + 1) cap) (n + 1) (xs ++ [x])) : w.ownsRow B T 1 (.slice (some ⟨g, 0, none⟩) n cap) n xs := by
  have hl := h.1
  rw [List.length_append, List.length_singleton] at hl
  refine ⟨by omega, ?_⟩
  rcases h.2 with ⟨e, _⟩ | ⟨g', cap', cur, e, e2, e3, e4, e5, e6, e7⟩
  · cases e
  · cases e
    refine .inr ⟨g, cap, cur, rfl, e2, e3, by omega, e5, e6, ?_⟩
    have h2 : (xs ++ [x]).take n = xs := by
      rw [List.take_append_of_le_length (by omega), List.take_of_length_le (by omega)]
    rw [← e7, List.take_take, Nat.min_eq_left (by omega)] at h2
    rw [Nat.mul_one]
    exact h2
theorem own_capS {w : World} {B s n cap g : Nat} {T : TypeId} {xs : List Value} (h : w.ownsRow B T s (.slice (some ⟨g, 0, none⟩) n cap) n xs) : n ≤ cap := by
  rcases h.2 with ⟨h', _⟩ | ⟨g', cap', cur, h', _, _, hn, _⟩
  · cases h'
  · cases h'
    exact hn
theorem own_putQ {w : World} {b : Nat} {f : Int → Option Value} (hm : MQ w b f) {base : Nat} {e : TypeId} {size n : Nat} {v : Value} {xs : List Value} (h : w.ownsRow base e size v n xs) (o : Obj) : (putObj w b o).ownsRow base e size v n xs := by
  have hne := hm.own h
  refine ⟨h.1, ?_⟩
  rcases h.2 with h0 | ⟨g, cap, cur, rfl, hg, hh, r⟩
  · exact .inl h0
  · exact .inr ⟨g, cap, cur, rfl, hg, (putObj_far fun e => hne (by rw [e]; rfl)).trans hh, r⟩
theorem nodup_le : ∀ {l m : List Int}, l.Nodup → (∀ x ∈ l, x ∈ m) → l.length ≤ m.length
  | [], _, _, _ => by simp
  | a :: l, m, hn, hs => by
    rw [List.nodup_cons] at hn
    have h1 := nodup_le (m := m.erase a) hn.2 fun x hx => (List.mem_erase_of_ne (fun e : x = a => hn.1 (e ▸ hx))).2 (hs x (by simp [hx]))
    have h2 := List.length_erase_of_mem (hs a (by simp))
    have h3 := List.length_pos_of_mem (hs a (by simp))
    rw [List.length_cons]
    omega
theorem ints_app (a b : List Int) : ints (a ++ b) = ints a ++ ints b := by simp [ints]
structure Ri (w W : World) (N : Int → Int → Prop) (s : Int) (E D O : List Int) (v : Value) : Prop where
  b : Below w.heap.size w W
  m : MQ W w.heap.size (seenF (D ++ O))
  r : W.ownsRow w.heap.size 3 1 v O.length (ints O)
  nd : (D ++ O).Nodup
  al : ∀ x ∈ D ++ O, Cl N s x
  cl : ∀ x ∈ E, ∀ y, N x y → y ∈ D ++ O
  iv : s ∈ D ++ O
section
variable {w W W' : World} {N : Int → Int → Prop} {s u : Int} {E D O : List Int} {v : Value}
theorem Ri.pop {g n cap : Nat} (h : Ri w W N s D D (O ++ [u]) (.slice (some ⟨g, 0, none⟩) (n + 1) cap)) (hn : O.length = n) : Ri w W N s D (D ++ [u]) O (.slice (some ⟨g, 0, none⟩) n cap) := by
  refine ⟨h.b, ?_, ?_, nodup_swap h.nd, fun x hx => h.al x (mem_app_swap.2 hx), fun x hx y hy => mem_app_swap.1 (h.cl x hx y hy), mem_app_swap.1 h.iv⟩
  · rw [seenF_eq (fun x => mem_app_swap.symm)]
    exact h.m
  · have h1 := h.r
    rw [List.length_append, List.length_singleton, ints_app, hn] at h1
    rw [hn]
    exact own_less h1
theorem Ri.close (h : Ri w W N s D (D ++ [u]) O v) (hu : ∀ y, N u y → y ∈ (D ++ [u]) ++ O) : Ri w W N s (D ++ [u]) (D ++ [u]) O v :=
  ⟨h.b, h.m, h.r, h.nd, h.al, fun x hx y hy => by
    rcases List.mem_append.1 hx with hx | hx
    · exact h.cl x hx y hy
    · obtain rfl : x = u := by simpa using hx
      exact hu y hy, h.iv⟩
theorem Ri.push {x : Int} {v' : Value} (h : Ri w W N s E D O v) (hu : u ∈ D ++ O) (hx : x ∉ D ++ O) (hN : N u x) (hb : Below w.heap.size w W') (hm : MQ W' w.heap.size (seenF ((D ++ O) ++ [x]))) (ho : W'.ownsRow w.heap.size 3 1 v' (O.length + 1) (ints O ++ [.int .i64 x])) : Ri w W' N s E D (O ++ [x]) v' := by
  refine ⟨hb, by rw [← List.append_assoc]; exact hm, by rw [List.length_append, ints_app]; exact ho, ?_, fun y hy => ?_, fun y hy z hz => ?_, ?_⟩
  · rw [← List.append_assoc, List.nodup_append]
    exact ⟨h.nd, by simp, fun a ha b hb e => by simp at hb; subst hb; subst e; exact hx ha⟩
  · rw [← List.append_assoc, List.mem_append] at hy
    rcases hy with hy | hy
    · exact h.al y hy
    · obtain rfl : y = x := by simpa using hy
      exact .step (h.al u hu) hN
  · have := h.cl y hy z hz
    rw [← List.append_assoc]
    exact List.mem_append_left _ this
  · rw [← List.append_assoc]
    exact List.mem_append_left _ h.iv
theorem Ri.fin (h : Ri w W N s D D [] v) (x : Int) : x ∈ D ↔ Cl N s x := by
  constructor
  · exact fun hx => h.al x (by simp [hx])
  · intro hx
    induction hx with
    | base => simpa using h.iv
    | step _ hn ih => simpa using h.cl _ ih _ hn
end
set_option maxHeartbeats 16000000 in
set_option maxRecDepth 100000 in
theorem reached_calls (w : World) (mo base : Nat) (F : Int → Rw) (s : Int) (V : List Int) (hom : OM w base mo F) (hs : s ∈ V) (hV : ∀ u ∈ V, ∀ y ∈ rL (F u), y ∈ V) (hVl : V.length ≤ 1000) (hFl : ∀ u, (rL (F u)).length ≤ 1000) :
    Calls Try.prog 32 #[.map (some mo), .int .i64 s] w fun e w' => ∃ S, e = .returned (.map (some w.heap.size)) ∧ MQ w' w.heap.size (seenF S) ∧ (∀ x, x ∈ S ↔ Cl (fun x y => y ∈ rL (F x)) s x) ∧ Below w.heap.size w w' := by
  obtain ⟨i1, hi1, hz1, hs1, hy1⟩ := info_parts Lw.info_int
  have hmk := run_mkI w
  obtain ⟨o, hup, hm1⟩ := (MQ.new w).update (P := Try.prog) (T := 72) Try.underlying72 Try.underlying3 s (.int .i64 1)
  have hdom : ∀ x, Cl (fun x y => y ∈ rL (F x)) s x → x ∈ V := fun x hx => by
    induction hx with
    | base => exact hs
    | step _ hn ih => exact hV _ ih _ hn
  have hb1 : Below w.heap.size w (putObj (w.alloc (.map #[] 0)) w.heap.size o) := below_putObj ((Below.refl _ _).alloc (Nat.le_refl _) _) (Nat.le_refl _) o
  have hb2 : Below w.heap.size w ((putObj (w.alloc (.map #[] 0)) w.heap.size o).alloc (.cells #[.int .i64 s] 3)) := hb1.alloc hb1.size _
  have hsz : (putObj (w.alloc (.map #[] 0)) w.heap.size o).heap.size = w.heap.size + 1 := by rw [putObj_size]; simp
  have hm2 : MQ ((putObj (w.alloc (.map #[] 0)) w.heap.size o).alloc (.cells #[.int .i64 s] 3)) w.heap.size (seenF [s]) := by
    have h1 := hm1.al (o := .cells #[.int .i64 s] 3)
    rw [show updV (fun _ => none) s (some (.int .i64 1)) = seenF [s] by
      have := seenF_add [] s
      rw [List.nil_append] at this
      rw [← this]
      rfl] at h1
    exact h1
  have hst : Ri w ((putObj (w.alloc (.map #[] 0)) w.heap.size o).alloc (.cells #[.int .i64 s] 3)) (fun x y => y ∈ rL (F x)) s [] [] [s] (.slice (some ⟨(putObj (w.alloc (.map #[] 0)) w.heap.size o).heap.size, 0, none⟩) 1 1) :=
    ⟨hb2, hm2, World.ownsRow_lit _ #[.int .i64 s] 1 (by rw [putObj_size]; simp) (by decide) rfl, by simp, fun x hx => by simp at hx; subst hx; exact .base, fun x hx => by simp at hx, by simp⟩
  rw [hsz] at hst
  have HS := Lib.hid hst
  have HX := Lib.hid (And.intro hom (And.intro hdom hFl))
  clear hom hs hV hFl hm1 hb1 hb2 hm2 hst hdom
  go_enter Try.func32, Try.ntmps32
  go_wp2_with fail
  clear hup hmk
  go_loopg [6] (V.length + 1) (fun kq v6 w' => Hid (∃ Dl O, Dl.length + kq = V.length + 1 ∧ Ri w w' (fun x y => y ∈ rL (F x)) s Dl Dl O v6))
  case atStart => exact Lib.hid ⟨[], [s], by simp, HS.out⟩
  case round =>
    clear HS
    obtain ⟨Dl, O, hdk, hI⟩ := hrel.out
    clear hrel
    have hlen := nodup_le hI.nd (m := V) fun x hx => HX.out.2.1 x (hI.al x hx)
    rw [List.length_append] at hlen
    rcases List.eq_nil_or_concat O with rfl | ⟨O', u, rfl⟩
    · obtain ⟨A10, c10, rfl⟩ := Lw.own_slice hI.r
      have HQ := Lib.hid hI
      clear hI hlen hdk
      go_wp2
      go_ret
      exact ⟨Dl, rfl, by simpa using HQ.out.m, HQ.out.fin, HQ.out.b⟩
    · obtain ⟨k1, rfl⟩ : ∃ k1, gk = k1 + 1 := ⟨gk - 1, by rw [List.length_concat] at hlen; omega⟩
      rw [List.concat_eq_append] at hI hlen
      obtain ⟨n, hn⟩ : ∃ n, O'.length = n := ⟨_, rfl⟩
      rw [List.length_append, List.length_singleton, hn] at hlen
      have hr := hI.r
      rw [List.length_append, List.length_singleton, hn, ints_app] at hr
      obtain ⟨g, c, rfl, _, _⟩ := hr.form (by omega)
      have cu := (hr.cellAt n (by omega)).trans (show (ints O' ++ ints [u])[n]? = some (.int .i64 u) by
        rw [List.getElem?_append_right (by simp [ints, hn]), show n - (ints O').length = 0 by simp [ints, hn]]; rfl)
      have hcap := own_capS hr
      have hpop := hI.pop hn
      obtain ⟨m, hm⟩ : ∃ m, n + 1 = m := ⟨_, rfl⟩
      have m1 : (m : Int) - 1 = (n : Int) := by omega
      have m2 : (m : Int) > 0 := by omega
      have m2' : 0 < m := by omega
      have n0 : (0 : Int) ≤ (n : Int) := by omega
      have n1 : (n : Int) < (m : Int) := by omega
      have n2 : (n : Int) ≤ (c : Int) := by omega
      have m3 : (m : Int) ≤ 1000 := by omega
      rw [hm]
      have hom := HX.out.1.below hpop.b
      have lk := hom.look u
      have hrow := hom.r u
      obtain ⟨rl, hrl⟩ : ∃ r, rL (F u) = r := ⟨_, rfl⟩
      obtain ⟨nl, hnl⟩ : ∃ r, rl.length = r := ⟨_, rfl⟩
      rw [hrl, hnl] at hrow
      obtain ⟨Al, cl, hvl⟩ := Lw.own_slice hrow
      rw [hvl] at lk
      have hrw := HX.out.1.r u
      rw [hrl, hnl, hvl] at hrw
      have hll := HX.out.2.2 u
      rw [hrl, hnl] at hll
      have HRD := Lib.hid (RdI.of_own hrw).1
      have HRL := Lib.hid (And.intro hrl hnl)
      have HP := Lib.hid (And.intro hpop (And.intro hdk hlen))
      clear hI hr hpop hcap hdk hlen hm hom hrow hrl hnl hvl hrw
      go_wp2_with fail
      clear cu lk
      go_loopg [6, 33] (nl + 1) (fun kq v6 v33 w' => ∃ i : Nat, v33 = .int .i64 (i : Int) ∧ Hid (i + kq = nl + 1 ∧ i ≤ nl ∧ ∃ O2, Ri w w' (fun x y => y ∈ rL (F x)) s Dl (Dl ++ [u]) O2 v6 ∧ ∀ y ∈ rl.take i, y ∈ (Dl ++ [u]) ++ O2))
      case atStart => exact ⟨0, rfl, Lib.hid ⟨by omega, by omega, O', HP.out.1, fun y hy => by simp at hy⟩⟩
      case round =>
        obtain ⟨i, rfl, hI⟩ := hrel
        obtain ⟨hik, hin', O2, hI5, hseen⟩ := hI.out
        clear hI
        by_cases hi : i < nl
        · obtain ⟨k2, rfl⟩ : ∃ k2, gk = k2 + 1 := ⟨gk - 1, by omega⟩
          obtain ⟨x, hx⟩ : ∃ x, rl[i]? = some x := ⟨_, List.getElem?_eq_getElem (by have := HRL.out.2; omega)⟩
          obtain ⟨bl, hbl, cx⟩ := (HRD.out.below hI5.b) i x hx
          subst hbl
          have hsl := look_seen hI5.m x
          have htk : rl.take (i + 1) = rl.take i ++ [x] := by rw [List.take_add_one, hx]; rfl
          have hxl := List.mem_of_getElem? hx
          have i0 : (0 : Int) ≤ (i : Int) := by omega
          have i1' : (i : Int) < (nl : Int) := by omega
          have i2 : (nl : Int) ≤ 1000 := by omega
          by_cases hin : x ∈ (Dl ++ [u]) ++ O2
          · rw [seenF_yes hin] at hsl
            have HN := Lib.hid (And.intro (And.intro hik hi) (And.intro hI5 (show ∀ y ∈ rl.take (i + 1), y ∈ (Dl ++ [u]) ++ O2 from fun y hy => by
              rw [htk, List.mem_append] at hy
              rcases hy with hy | hy
              · exact hseen y hy
              · obtain rfl : y = x := by simpa using hy
                exact hin)))
            clear hI5 hseen htk hx hi hin hxl hik hin'
            go_wp2
            go_roundg k2
            case measure => omega
            case rel => exact ⟨i + 1, by go_num, Lib.hid ⟨by have := HN.out.1; omega, by have := HN.out.1; omega, O2, HN.out.2.1, HN.out.2.2⟩⟩
          · rw [seenF_no hin] at hsl
            obtain ⟨o2, hup, hm2⟩ := seen_put hI5.m x
            have hbp : Below w.heap.size w (putObj wr w.heap.size o2) := below_putObj hI5.b (Nat.le_refl _) o2
            have hop : (putObj wr w.heap.size o2).ownsRow w.heap.size 3 1 u6 O2.length (ints O2) := own_putQ hI5.m hI5.r o2
            have hszp : w.heap.size ≤ (putObj wr w.heap.size o2).heap.size := hbp.size
            have huN : x ∈ rL (F u) := by rw [HRL.out.1]; exact hxl
            have hO2l : O2.length ≤ 1000 := by
              have := nodup_le hI5.nd (m := V) fun x hx => HX.out.2.1 x (hI5.al x hx)
              rw [List.length_append] at this
              omega
            have HO := Lib.hid (And.intro hop (And.intro hbp (And.intro hm2 hszp)))
            have H5 := Lib.hid (And.intro hI5 (And.intro hin (And.intro huN (And.intro htk (And.intro hseen (And.intro hik hi))))))
            clear hI5 hseen htk hx hi hin hm2 hbp hop huN hxl hszp hik hin'
            go_wp2_with ((at_builtin; refine wpList_append_any rfl (.tmp 43) (.tmp 45) 22 rfl w.heap.size 3 i1 (.int .i64 0) 1 8 Try.underlying22 hi1 hz1 hs1 hy1 rfl (by omega) _ _ _ rfl (HO.out.1.alloc (.cells #[.int .i64 x] 3)) _ rfl 1 [.int .i64 x] (RdV.lit _ #[.int .i64 x] 3 1 1 1 rfl (by simp [Value.oneCell'])) (by unfold maxLen; omega) (by omega) (by have := HO.out.2.2.2; simp; omega) ?_; intro v6 w6 ho hg hn; have hm6 := (HO.out.2.2.1.al (o := .cells #[.int .i64 x] 3)).grown hg (HO.out.2.2.1.al.own (HO.out.1.alloc (.cells #[.int .i64 x] 3))); have hb6 := (HO.out.2.1.alloc HO.out.2.2.2 (.cells #[.int .i64 x] 3)).grown hg (by have := HO.out.2.2.2; simp; omega) (fun k hk => ((HO.out.1.alloc (.cells #[.int .i64 x] 3)).lt k hk).1); have HO6 := Lib.hid (And.intro ho (And.intro hb6 hm6)); obtain ⟨A6, c6, rfl⟩ := Lw.own_slice ho; clear ho hg hn hm6 hb6))
            go_roundg k2
            case measure => omega
            case rel =>
              obtain ⟨hI5, hin, huN, htk, hseen, hik, hi⟩ := H5.out
              obtain ⟨ho, hb6, hm6⟩ := HO6.out
              refine ⟨i + 1, by go_num, Lib.hid ⟨by omega, by omega, O2 ++ [x], hI5.push (u := u) (by simp) hin huN hb6 hm6 ho, fun y hy => ?_⟩⟩
              rw [htk, List.mem_append] at hy
              rw [← List.append_assoc, List.mem_append]
              rcases hy with hy | hy
              · exact .inl (hseen y hy)
              · exact .inr (by simpa using hy)
        · obtain rfl : i = nl := by omega
          have jn : ¬ ((i : Int) < (i : Int)) := by omega
          rw [List.take_of_length_le (by have := HRL.out.2; omega)] at hseen
          have hclo := hI5.close (fun y hy => hseen y (by rw [← HRL.out.1]; exact hy))
          have HN := Lib.hid (And.intro hclo HP.out.2.1)
          clear hI5 hclo hseen hi hik hin' HP
          go_wp2
          go_roundg k1
          case measure => omega
          case rel => exact Lib.hid ⟨Dl ++ [u], O2, by rw [List.length_append, List.length_singleton]; have := HN.out.2; omega, HN.out.1⟩
end Go.Proofs.Ytgihncjllelonaa.Ce

/- Plain laws on places, and a ring through all vertices: one component. -/
namespace Go.Proofs.Ytgihncjllelonaa.Tj
open Go.Proofs.Ytgihncjllelonaa.Sl Go.Proofs.Ytgihncjllelonaa.Lw
set_option linter.unusedVariables false

theorem place_at : ∀ (sl : List Int) (x : Nat), sl.Pairwise (· < ·) → ∀ h : x < sl.length, place sl sl[x] = x
  | [], x, _, h => by simp at h
  | a :: r, 0, hs, h => by
    have h1 := (List.pairwise_cons.1 hs).1
    unfold place
    rw [List.getElem_cons_zero, List.countP_cons_of_neg (by simp), List.countP_eq_zero]
    intro b hb
    have := h1 b hb
    simp
    omega
  | a :: r, x + 1, hs, h => by
    have h1 := List.pairwise_cons.1 hs
    have hx : x < r.length := by simpa using h
    have := place_at r x h1.2 hx
    unfold place at *
    rw [List.getElem_cons_succ, List.countP_cons_of_pos (by simpa using h1.1 _ (List.getElem_mem hx)), this]

theorem mem_place {sl : List Int} (hs : sl.Pairwise (· < ·)) {x : Int} (h : x ∈ sl) : ∃ i, ∃ hi : i < sl.length, sl[i] = x ∧ place sl x = i := by
  obtain ⟨i, hi, he⟩ := List.getElem_of_mem h
  exact ⟨i, hi, he, he ▸ place_at sl i hs hi⟩
theorem place_lt {sl : List Int} (hs : sl.Pairwise (· < ·)) {x : Int} (h : x ∈ sl) : place sl x < sl.length := by
  obtain ⟨i, hi, _, e⟩ := mem_place hs h
  omega

end Go.Proofs.Ytgihncjllelonaa.Tj

/- The references' Place, walked. -/
namespace Go.Proofs.Ytgihncjllelonaa.Lw
open Go Go.RowKit Go.Proofs.Ytgihncjllelonaa.Mem Go.Proofs.Ytgihncjllelonaa.Sl Go.Proofs.Ytgihncjllelonaa.Scc Go.Proofs.Ytgihncjllelonaa.Tj Go.Proofs.YtgihncjllelonaaW.PrintWords Go.Proofs.YtgihncjllelonaaW.PrintLast
attribute [local go_sem ↓] Go.wp_at_zero Go.wp_at_succ
set_option linter.unusedSimpArgs false
set_option linter.unusedVariables false

def plI (sl : List Int) (v : Int) : Int := if sl.contains v = true then (place sl v : Int) else -1

theorem plI_at {sl : List Int} (hs : sl.Pairwise (· < ·)) {v : Int} {lo : Nat} (h : sl[lo]? = some v) : plI sl v = (lo : Int) := by
  obtain ⟨hl, he⟩ := List.getElem?_eq_some_iff.1 h
  unfold plI
  rw [if_pos (by simpa using List.mem_of_getElem? h), ← he, place_at sl lo hs hl]
theorem plI_none {sl : List Int} {v : Int} {lo : Nat} (h1 : ∀ (i : Nat) (x : Int), i < lo → sl[i]? = some x → x < v) (h2 : ∀ (i : Nat) (x : Int), lo ≤ i → sl[i]? = some x → v ≤ x) (hs : sl.Pairwise (· < ·)) (h3 : sl[lo]? ≠ some v) : plI sl v = -1 := by
  unfold plI
  rw [if_neg]
  intro hc
  have hm : v ∈ sl := by simpa using hc
  obtain ⟨j, hj, he⟩ := List.getElem_of_mem hm
  have hjs : sl[j]? = some v := by rw [List.getElem?_eq_getElem hj, he]
  rcases Nat.lt_trichotomy j lo with h | h | h
  · have := h1 j v h hjs; omega
  · subst h; exact h3 hjs
  · have hlo : lo < sl.length := by omega
    have h4 := h2 lo _ (Nat.le_refl _) (List.getElem?_eq_getElem hlo)
    have h5 := List.pairwise_iff_getElem.1 hs lo j hlo hj h
    omega

def gV (A : Option Addr) (n c : Nat) (E : Value) (gw : Int := 0) : Value := .agg #[.slice A n c, E, .int .i64 0, .int .i64 gw]


set_option maxHeartbeats 8000000 in
set_option maxRecDepth 100000 in
theorem place_calls {gw : Int} (w : World) (A AE : Option Addr) (c m ce : Nat) (sl : List Int) (v : Int) (hv : RdI w A sl) (hs : sl.Pairwise (· < ·)) (hl : sl.length ≤ 1000000) :
    Calls Try.prog 58 #[gV A sl.length c (.slice AE m ce) gw, .int .i64 v] w fun e w' => e = .returned (.int .i64 (plI sl v)) ∧ Below w.heap.size w w' := by
  obtain ⟨n, hn⟩ : ∃ n, sl.length = n := ⟨_, rfl⟩
  rw [hn] at hl ⊢
  have HV := Lib.hid hv
  have HS := Lib.hid hs
  have HN := Lib.hid hn
  clear hv hs hn
  unfold gV
  go_enter Try.func58, Try.ntmps58
  go_upto_region 1 with (fail)
  refine gen_world (fun W => At W w.heap.size [.slice A n c, .slice AE m ce, .int .i64 0, .int .i64 gw] 35 ∧ Below w.heap.size w W) ?_ ?_
  · exact ⟨At.made rfl rfl, (Below.refl _ _).alloc (Nat.le_refl _) _⟩
  obtain ⟨gb, hgb⟩ : ∃ gb, w.heap.size = gb := ⟨_, rfl⟩
  rw [hgb]
  rintro W ⟨hat, hb⟩
  have cg := hat.cell 0 rfl
  have HAT := Lib.hid hat
  have HB := Lib.hid (hgb ▸ hb : Below w.heap.size w W)
  clear hat hb hgb
  refine start_ (n := 5) (S := fun w' => w'.cell? ⟨gb, 0, none⟩ = some (.slice A n c)) (ds := []) (bA 5 0) (by kernel_rfl) rfl rfl (cg) (fun hHeld => ?_)
  refine pk_ 0 8 (bA 5 1) ?_
  refine pk_ 3 5 (bA 5 9) ?_
  refine tk_ 1 9 (bA 5 11) hHeld (hv := by intro w' s0; go_simp; with_reducible rfl) (h := ?_)
  refine pk_ 2 10 (bA 5 15) ?_
  refine pk_ 4 6 (bA 5 31) ?_
  refine done_ (by kernel_rfl) ?_
  clear hHeld; clear cg
  refine gen_then (fun W => At W gb [.slice A n c, .slice AE m ce, .int .i64 0, .int .i64 gw] 35 ∧ Below w.heap.size w W) ?_ ?_
  · exact ⟨HAT.out.drew, HB.out.drew⟩
  clear HAT HB
  rintro W0 ⟨hat, hb⟩
  have cg := hat.cell 0 rfl
  have HB := Lib.hid hb
  clear hat hb
  go_wp2
  go_loopg [5, 6] n (fun kq v5 v6 w' => ∃ lo hi : Nat, v5 = .int .i64 (lo : Int) ∧ v6 = .int .i64 (hi : Int) ∧ Hid (lo + kq = hi ∧ hi ≤ n ∧ w' = W0 ∧ (∀ (i : Nat) (x : Int), i < lo → sl[i]? = some x → x < v) ∧ ∀ (i : Nat) (x : Int), hi ≤ i → sl[i]? = some x → v ≤ x))
  case atStart => exact ⟨0, n, rfl, rfl, Lib.hid ⟨by omega, Nat.le_refl _, rfl, fun i x h => by omega, fun i x h hx => by have := (List.getElem?_eq_some_iff.1 hx).1; have := HN.out; omega⟩⟩
  case round =>
    obtain ⟨lo, hi, rfl, rfl, hI⟩ := hrel
    obtain ⟨hlh, hhn, hw, h1, h2⟩ := hI.out
    subst hw
    clear hI
    cases gk with
    | zero =>
      obtain rfl : hi = lo := by omega
      by_cases hln : hi < n
      · obtain ⟨x, hx⟩ : ∃ x, sl[hi]? = some x := ⟨_, List.getElem?_eq_getElem (by have := HN.out; omega)⟩
        obtain ⟨b, rfl, cx⟩ := (HV.out.below HB.out) hi x hx
        have j0 : (0 : Int) ≤ (hi : Int) := by omega
        have j1 : (hi : Int) < (n : Int) := by omega
        have j2 : (n : Int) ≤ 1000000 := by omega
        by_cases hxv : x = v
        · subst hxv
          have hp := plI_at HS.out hx
          have HP := Lib.hid hp
          clear hp hx h1 h2 hlh hln
          go_wp2
          go_ret
          exact ⟨by rw [HP.out]; rfl, HB.out⟩
        · have hp := plI_none h1 h2 HS.out (by rw [hx]; simpa using hxv)
          have HP := Lib.hid hp
          have e1 : (x == v) = false := beq_eq_false_iff_ne.2 hxv
          clear hp hx h1 h2 hlh hln hxv
          go_wp2
          go_ret
          exact ⟨by rw [HP.out]; rfl, HB.out⟩
      · have hp := plI_none h1 h2 HS.out (by rw [List.getElem?_eq_none (by have := HN.out; omega)]; simp)
        have HP := Lib.hid hp
        obtain rfl : hi = n := by omega
        clear hp h1 h2 hlh hln
        go_wp2
        go_ret
        exact ⟨by rw [HP.out]; rfl, HB.out⟩
    | succ k =>
      obtain ⟨mid, hmid⟩ : ∃ mid, (lo + hi) / 2 = mid := ⟨_, rfl⟩
      have hm1 : lo ≤ mid := by omega
      have hm2 : mid < hi := by omega
      obtain ⟨x, hx⟩ : ∃ x, sl[mid]? = some x := ⟨_, List.getElem?_eq_getElem (by have := HN.out; omega)⟩
      obtain ⟨b, rfl, cx⟩ := (HV.out.below HB.out) mid x hx
      have hmono : ∀ (i j : Nat) (p q : Int), i ≤ j → sl[i]? = some p → sl[j]? = some q → p ≤ q := by
        intro i j p q hij hp hq
        obtain ⟨a1, a2⟩ := List.getElem?_eq_some_iff.1 hp
        obtain ⟨b1, b2⟩ := List.getElem?_eq_some_iff.1 hq
        rcases Nat.eq_or_lt_of_le hij with rfl | h
        · rw [hp] at hq; cases hq; exact Int.le_refl _
        · have := List.pairwise_iff_getElem.1 HS.out i j a1 b1 h; omega
      have l0 : (0 : Int) ≤ (lo : Int) := by omega
      have l1 : (lo : Int) < (hi : Int) := by omega
      have j0 : (0 : Int) ≤ (mid : Int) := by omega
      have j1 : (mid : Int) < (n : Int) := by omega
      have j2 : (n : Int) ≤ 1000000 := by omega
      have e2 : ((lo : Int) + (hi : Int)).tdiv 2 = (mid : Int) := by rw [Int.tdiv_eq_ediv_of_nonneg (by omega), ← hmid]; omega
      have e3 : ((lo : Int) + (hi : Int)) / 2 = (mid : Int) := by rw [← hmid]; omega
      have e1 : ∀ y : Int, y = (lo : Int) + (hi : Int) → wrap64 y = y := fun y hy => by subst hy; unfold wrap64; omega
      have HL := Lib.hid (show lo + (k + 1) = hi ∧ hi ≤ n ∧ lo ≤ mid ∧ mid < hi from ⟨hlh, hhn, hm1, hm2⟩)
      by_cases hxv : x < v
      · have H1 := Lib.hid (show ∀ (i : Nat) (p : Int), i < mid + 1 → sl[i]? = some p → p < v from fun i p hi' hp => by have := hmono i mid p x (by omega) hp hx; omega)
        have H2 := Lib.hid h2
        clear h1 h2 hmono hx hmid hm1 hm2 hlh hhn
        go_wp2
        go_roundg (hi - (mid + 1))
        case measure => have := HL.out; omega
        case rel => exact ⟨mid + 1, hi, by go_num, rfl, Lib.hid ⟨by have := HL.out; omega, HL.out.2.1, rfl, H1.out, H2.out⟩⟩
      · have H1 := Lib.hid h1
        have H2 := Lib.hid (show ∀ (i : Nat) (p : Int), mid ≤ i → sl[i]? = some p → v ≤ p from fun i p hi' hp => by have := hmono mid i x p hi' hx hp; omega)
        clear h1 h2 hmono hx hmid hm1 hm2 hlh hhn
        go_wp2
        go_roundg (mid - lo)
        case measure => have := HL.out; omega
        case rel => exact ⟨lo, mid, rfl, by go_num, Lib.hid ⟨by have := HL.out; omega, by have := HL.out; omega, rfl, H1.out, H2.out⟩⟩

end Go.Proofs.Ytgihncjllelonaa.Lw

/- The references' Error, walked. -/
namespace Go.Proofs.Ytgihncjllelonaa.Lw
open Go Go.RowKit Go.Proofs.Ytgihncjllelonaa.Mem Go.Proofs.Ytgihncjllelonaa.Sl Go.Proofs.Ytgihncjllelonaa.Scc Go.Proofs.Ytgihncjllelonaa.Tj Go.Proofs.YtgihncjllelonaaW.PrintWords Go.Proofs.YtgihncjllelonaaW.PrintLast
attribute [local go_sem ↓] Go.wp_at_zero Go.wp_at_succ
set_option linter.unusedSimpArgs false
set_option linter.unusedVariables false

theorem keep_at {w w' : World} {a : Addr} {v : Value} (hb : Below w.heap.size w w') (hc : w.cell? a = some v) : w'.cell? a = some v := (hb.cell (World.block_lt_of_cell? w _ hc)).trans hc

theorem gen_loopw {P : Program} {c : Code} {Q : Exit → Act → World → Prop} {a : Act} {w : World} (I : World → Prop) (h : I w) (k : ∀ W, I W → Code.wp P c Q a W) : Code.wp P c Q a w := k w h

theorem Below.drewL {w w' : World} (h : Below w.drew.heap.size w.drew w') : Below w.heap.size w w' := ⟨h.os, h.tape, h.output, h.size, h.block⟩

end Go.Proofs.Ytgihncjllelonaa.Lw
