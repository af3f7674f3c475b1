/- cond: reach, walked with heads and with tails. -/
import Derived.Test.YthomnpgpbhpojaaPo11
namespace Go.Proofs.Ythomnpgpbhpojaa.Cd
open Go Go.RowKit Go.Proofs.Ythomnpgpbhpojaa.Mem Go.Proofs.Ythomnpgpbhpojaa.Sl Go.Proofs.Ythomnpgpbhpojaa.Lw Go.Proofs.Ythomnpgpbhpojaa.Pt Go.Proofs.YthomnpgpbhpojaaW.PrintWords Go.Proofs.YthomnpgpbhpojaaW.PrintLast
attribute [local go_sem ↓] Go.wp_at_zero Go.wp_at_succ
set_option linter.unusedSimpArgs false
set_option linter.unusedVariables false

theorem mq_cell {w : World} {b : Nat} {f : Int → Option Value} (h : MQ w b f) (j : Nat) : w.cell? ⟨b, j, none⟩ = none := by
  obtain ⟨es, cl, hb, _⟩ := h
  simp [World.cell?, hb]
theorem rd_put {w : World} {b : Nat} {f : Int → Option Value} (hm : MQ w b f) {A : Option Addr} {l : List Int} (h : RdI w A l) (o : Obj) : RdI (putObj w b o) A l := fun j x hx => by
  obtain ⟨c, e1, e2⟩ := h j x hx
  refine ⟨c, e1, (World.cell?_of_block (w := w) (putObj_far fun e => ?_)).trans e2⟩
  dsimp only at e
  subst e
  rw [mq_cell hm] at e2
  cases e2
theorem rd_grown {w w' : World} {row : Option Nat} {A : Option Addr} {l : List Int} (h : RdI w A l) (hg : w.grownBy w' row) (hne : ∀ b, A = some ⟨b, 0, none⟩ → some b ≠ row) : RdI w' A l := fun j x hx => by
  obtain ⟨c, e1, e2⟩ := h j x hx
  exact ⟨c, e1, (World.cell?_of_block (w := w) (hg.block c (World.block_lt_of_cell? _ _ e2) (hne c e1))).trans e2⟩
theorem own_putQ {w : World} {b : Nat} {f : Int → Option Value} (hm : MQ w b f) {base : Nat} {e : TypeId} {size n : Nat} {v : Value} {xs : List Value} (h : w.ownsRow base e size v n xs) (o : Obj) : (putObj w b o).ownsRow base e size v n xs := by
  have hne := hm.own h
  refine ⟨h.1, ?_⟩
  rcases h.2 with h0 | ⟨g, cap, cur, rfl, hg, hh, r⟩
  · exact .inl h0
  · exact .inr ⟨g, cap, cur, rfl, hg, (putObj_far fun e => hne (by rw [e]; rfl)).trans hh, r⟩
section
variable {w w' W W' : World} {gc ga go gi gp gm : Nat} {lk : Int} {arcs : Int → Option (Int × Int)} {ob ib : Int → Nat} {cls : Int → Option Nat} {row : Nat → List Int} {val : Nat → Value} {tg : Nat → Nat × Int} {pb cb : Nat → Prop}
set_option maxHeartbeats 4000000 in
theorem all_calls (w : World) (x : Int) : Calls Try.prog 33 #[.int .i64 x] w fun e w' => e = .returned (.bool true) ∧ w' = w := by
  go_enter Try.func33, Try.ntmps33
  go_wp2
  go_ret
  exact ⟨rfl, rfl⟩
set_option maxHeartbeats 4000000 in
theorem ahead_calls (w : World) (g ba : Nat) (S : List Int) (x : Int) (hc : w.cell? ⟨g, 0, none⟩ = some (.map (some ba))) (hm : MQ w ba (seenF S)) : Calls Try.prog 35 #[.int .i64 x, .pointer (some ⟨g, 0, none⟩)] w fun e w' => e = .returned (.bool (decide (x ∈ S))) ∧ w' = w := by
  have hlk := look_seen hm x
  by_cases hx : x ∈ S
  · rw [seenF_yes hx] at hlk
    rw [decide_eq_true hx]
    clear hm hx
    go_enter Try.func35, Try.ntmps35
    go_wp2
    go_ret
    exact ⟨rfl, rfl⟩
  · rw [seenF_no hx] at hlk
    rw [decide_eq_false hx]
    clear hm hx
    go_enter Try.func35, Try.ntmps35
    go_wp2
    go_ret
    exact ⟨rfl, rfl⟩

set_option maxHeartbeats 16000000 in
set_option maxRecDepth 100000 in
theorem reachA_calls (h : CdS w gc ga go gi gp gm lk arcs ob ib cls row val tg pb cb) (V : List Int) (hV : ∀ x, cls x ≠ none → x ∈ V) (hVl : V.length ≤ 1000) (hlk : 0 ≤ lk ∧ lk ≤ 1000000) (v : Int) (hv : cls v ≠ none) :
    Calls Try.prog 31 #[.pointer (some ⟨gc, 0, none⟩), .int .i64 v, .func (.func 32) #[.pointer (some ⟨gc, 0, none⟩)] #[], .func (.func 33) #[] #[]] w fun e w' => ∃ bs S, e = .returned (.map (some bs)) ∧ w.heap.size ≤ bs ∧ MQ w' bs (seenF S) ∧ S.Nodup ∧ (∀ x, x ∈ S ↔ Cl (fun x y => ∃ e, arcs e = some (x, y)) v x) ∧
      CdS w' gc ga go gi gp gm (lk + S.length) arcs ob ib cls row val tg pb cb ∧ Kpt (· = gc) w w' := by
  obtain ⟨i1, hi1, hz1, hs1, hy1⟩ := info_parts Lw.info_int
  have hcb := h.m.lt
  have HM0 := Lib.hid h.m.hc
  have hmk := run_mkI w
  obtain ⟨o, hup, hm1⟩ := (MQ.new w).update (P := Try.prog) (T := 71) Try.underlying71 Try.underlying3 v (.int .i64 1)
  have hdom : ∀ x, Cl (fun x y => ∃ e, arcs e = some (x, y)) v x → cls x ≠ none := fun x hx => by
    induction hx with
    | base => exact hv
    | step _ hn _ => obtain ⟨e, he⟩ := hn; exact (h.en e _ he).2
  have hb1 : Below w.heap.size w (putObj (w.alloc (.map #[] 0)) w.heap.size o) := below_putObj ((Below.refl _ _).alloc (Nat.le_refl _) _) (Nat.le_refl _) o
  have hb2 : Below w.heap.size w ((putObj (w.alloc (.map #[] 0)) w.heap.size o).alloc (.cells #[.int .i64 v] 3)) := hb1.alloc hb1.size _
  have hsz : (putObj (w.alloc (.map #[] 0)) w.heap.size o).heap.size = w.heap.size + 1 := by rw [putObj_size]; simp
  have hm2 : MQ ((putObj (w.alloc (.map #[] 0)) w.heap.size o).alloc (.cells #[.int .i64 v] 3)) w.heap.size (seenF [v]) := by
    have h1 := hm1.al (o := .cells #[.int .i64 v] 3)
    rw [show updV (fun _ => none) v (some (.int .i64 1)) = seenF [v] by
      have := seenF_add [] v
      rw [List.nil_append] at this
      rw [← this]
      rfl] at h1
    exact h1
  have hst : RcI w gc ga go gi gp gm lk arcs ob ib cls row val tg pb cb (fun x y => ∃ e, arcs e = some (x, y)) v w.heap.size [] [] [v] (.slice (some ⟨(putObj (w.alloc (.map #[] 0)) w.heap.size o).heap.size, 0, none⟩) 1 1) ((putObj (w.alloc (.map #[] 0)) w.heap.size o).alloc (.cells #[.int .i64 v] 3)) := by
    refine ⟨kpt_belowB (Kpt.refl _ _) hb2, ?_, hm2, World.ownsRow_lit _ #[.int .i64 v] 1 (by rw [putObj_size]; simp) (by decide) rfl, by simp, fun x hx => by simp at hx; subst hx; exact .base, fun x hx => by simp at hx, by simp⟩
    rw [List.length_nil, show lk + ((0 : Nat) : Int) = lk by omega]
    exact h.below hb2
  rw [hsz] at hst
  skip
  have HS := Lib.hid hst
  have HX := Lib.hid (And.intro hcb (And.intro hV hdom))
  clear h hcb hv hm1 hb1 hb2 hm2 hst hdom hV
  go_enter Try.func31, Try.ntmps31
  go_wp2_with fail
  clear hup hmk
  go_loopg [10] (V.length + 1) (fun kq v10 w' => Hid (∃ Dl O, Dl.length + kq = V.length + 1 ∧ RcI w gc ga go gi gp gm lk arcs ob ib cls row val tg pb cb (fun x y => ∃ e, arcs e = some (x, y)) v w.heap.size Dl Dl O v10 w'))
  case atStart => exact Lib.hid ⟨[], [v], by simp, HS.out⟩
  case round =>
    clear HS
    obtain ⟨Dl, O, hdk, hI⟩ := hrel.out
    clear hrel
    have hlen := nodup_le hI.nd (m := V) fun x hx => HX.out.2.1 x (HX.out.2.2 x (hI.al x hx))
    rw [List.length_append] at hlen
    rcases List.eq_nil_or_concat O with rfl | ⟨O', u, rfl⟩
    · obtain ⟨A10, c10, rfl⟩ := own_slice hI.r
      have HQ := Lib.hid hI
      clear hI hlen hdk
      go_wp2
      go_ret
      refine ⟨_, Dl, rfl, Nat.le_refl _, by simpa using HQ.out.m, by simpa using HQ.out.nd, HQ.out.fin, HQ.out.c, HQ.out.k⟩
    · obtain ⟨k1, rfl⟩ : ∃ k1, gk = k1 + 1 := ⟨gk - 1, by rw [List.length_concat] at hlen; omega⟩
      rw [List.concat_eq_append] at hI hlen
      obtain ⟨n, hn⟩ : ∃ n, O'.length = n := ⟨_, rfl⟩
      rw [List.length_append, List.length_singleton, hn] at hlen
      have hr := hI.r
      rw [List.length_append, List.length_singleton, hn, ints_app] at hr
      obtain ⟨g, c, rfl, _, _⟩ := hr.form (by omega)
      have cu := (hr.cellAt n (by omega)).trans (show (ints O' ++ ints [u])[n]? = some (.int .i64 u) by
        rw [List.getElem?_append_right (by simp [ints, hn]), show n - (ints O').length = 0 by simp [ints, hn]]; rfl)
      have hcap := own_capS hr
      have hpop := hI.pop hn
      have c4 := hI.c.m.hc.cell 4 rfl
      have f4 := hI.c.m.hc.free 4
      have huD : cls u ≠ none := HX.out.2.2 u (hI.al u (by simp))
      obtain ⟨m, hm⟩ : ∃ m, n + 1 = m := ⟨_, rfl⟩
      have m1 : (m : Int) - 1 = (n : Int) := by omega
      have m2 : (m : Int) > 0 := by omega
      have n0 : (0 : Int) ≤ (n : Int) := by omega
      have n1 : (n : Int) < (m : Int) := by omega
      have n2 : (n : Int) ≤ (c : Int) := by omega
      have m3 : (m : Int) ≤ 1000 := by omega
      have l1 : 0 ≤ lk + (Dl.length : Int) ∧ lk + (Dl.length : Int) ≤ 2000000 := by omega
      obtain ⟨l0, hl0⟩ : ∃ l0, lk + (Dl.length : Int) = l0 := ⟨_, rfl⟩
      rw [hl0] at hpop c4 l1
      rw [hm]
      have HP := Lib.hid (And.intro hpop (And.intro huD (And.intro hdk hlen)))
      clear hI hr hpop huD hcap hl0 hdk hlen hm
      go_upto_region 7 with (fail)
      refine gen_world (fun W => RcI w gc ga go gi gp gm lk arcs ob ib cls row val tg pb cb (fun x y => ∃ e, arcs e = some (x, y)) v w.heap.size Dl (Dl ++ [u]) O' (.slice (some ⟨g, 0, none⟩) n c) W) HP.out.1 ?_
      clear cu c4 f4
      intro w3 hI3
      have HI3 := Lib.hid hI3
      have HNX := Lib.hid (heads_calls hI3.c u HP.out.2.1)
      clear hI3
      go_wp2_with fail
      refine HNX.out.mono ?_
      clear HNX
      rintro e w4 ⟨vl, l, rfl, hol, hb4, hll, hlm⟩
      obtain ⟨Al, cl, rfl⟩ := own_slice hol
      have hrd := (RdI.of_own hol).1
      have hI4 := HI3.out.belowB HX.out.1 hb4
      have HNE := Lib.hid (show ∀ b k, Al = some ⟨b, 0, none⟩ → (Value.slice (some ⟨g, 0, none⟩) n c).ownBlock = some k → k ≠ b from fun b k e1 e2 e3 => by
        subst e1 e3
        have h1 := (HI3.out.r.lt k e2).2
        have h2 := (hol.lt k rfl).1
        omega)
      have H4 := Lib.hid (And.intro hI4 (And.intro hrd hlm))
      have HLL := Lib.hid hll
      clear hI4 hrd hlm hol hb4 hll HI3
      go_wp2_with fail
      go_loopg [10, 44] l.length (fun kq v10 v44 w' => ∃ i : Nat, v44 = .int .i64 (i : Int) ∧ Hid (i + kq = l.length ∧ ∃ O2, RcI w gc ga go gi gp gm lk arcs ob ib cls row val tg pb cb (fun x y => ∃ e, arcs e = some (x, y)) v w.heap.size Dl (Dl ++ [u]) O2 v10 w' ∧ RdI w' Al l ∧ (∀ b k, Al = some ⟨b, 0, none⟩ → v10.ownBlock = some k → k ≠ b) ∧ ∀ y ∈ l.take i,  y ∈ (Dl ++ [u]) ++ O2))
      case atStart => exact ⟨0, rfl, Lib.hid ⟨by omega, O', H4.out.1, H4.out.2.1, HNE.out, fun y hy => by simp at hy⟩⟩
      case round =>
        obtain ⟨i, rfl, hI⟩ := hrel
        obtain ⟨hik, O2, hI5, hrd, hne, hseen⟩ := hI.out
        clear hI
        by_cases hi : i < l.length
        · obtain ⟨k2, rfl⟩ : ∃ k2, gk = k2 + 1 := ⟨gk - 1, by omega⟩
          obtain ⟨x, hx⟩ : ∃ x, l[i]? = some x := ⟨_, List.getElem?_eq_getElem hi⟩
          obtain ⟨bl, rfl, cx⟩ := hrd i x hx
          have hsl := look_seen hI5.m x
          have htk := take_next2 hx
          have hxl := List.mem_of_getElem? hx
          have i0 : (0 : Int) ≤ (i : Int) := by omega
          have i1' : (i : Int) < (l.length : Int) := by omega
          have i2 : (l.length : Int) ≤ 1000 := by have := HLL.out; omega
          by_cases hin : x ∈ (Dl ++ [u]) ++ O2
          · rw [seenF_yes hin] at hsl
            have HN := Lib.hid (And.intro hI5 (And.intro hrd (And.intro hne (show ∀ y ∈ l.take (i + 1),  y ∈ (Dl ++ [u]) ++ O2 from fun y hy => by
              rw [htk, List.mem_append] at hy
              rcases hy with hy | hy
              · exact hseen y hy
              · obtain rfl : y = x := by simpa using hy
                exact hin))))
            clear hI5 hrd hne hseen htk hx hi hin hxl
            go_wp2
            go_roundg k2
            case measure => omega
            case rel => exact ⟨i + 1, by go_num, Lib.hid ⟨by omega, O2, HN.out.1, HN.out.2.1, HN.out.2.2.1, HN.out.2.2.2⟩⟩
          · rw [seenF_no hin] at hsl
            have HMY := Lib.hid (all_calls wr x)
            obtain ⟨o, hup, hm2⟩ := hI5.m.update (P := Try.prog) (T := 71) Try.underlying71 Try.underlying3 x (.int .i64 1)
            rw [seenF_add] at hm2
            have hbp : Below w.heap.size wr (putObj wr w.heap.size o) := below_putObj ⟨rfl, rfl, rfl, Nat.le_refl _, fun _ _ => rfl⟩ (Nat.le_refl _) o
            have hop : (putObj wr w.heap.size o).ownsRow w.heap.size 3 1 u10 O2.length (ints O2) := own_putQ hI5.m hI5.r o
            have hrp := rd_put hI5.m hrd o
            have hszp : w.heap.size ≤ (putObj wr w.heap.size o).heap.size := by rw [putObj_size]; exact hI5.k.size
            have huN : (fun x y => ∃ e, arcs e = some (x, y)) u x := (H4.out.2.2 x).1 hxl
            have hO2l : O2.length ≤ 1000 := by
              have := nodup_le hI5.nd (m := V) fun x hx => HX.out.2.1 x (HX.out.2.2 x (hI5.al x hx))
              rw [List.length_append] at this
              omega
            have HO := Lib.hid (And.intro hop (And.intro hbp (And.intro hm2 hszp)))
            have H5 := Lib.hid (And.intro hI5 (And.intro hrp (And.intro hin (And.intro huN (And.intro hne (And.intro htk hseen))))))
            clear hI5 hrd hne hseen htk hx hi hin hm2 hbp hop hrp huN hxl hszp
            go_wp2_with fail
            refine HMY.out.mono ?_
            clear HMY
            rintro e wr ⟨rfl, rfl⟩
            go_wp2_with ((at_builtin; refine wpList_append_any rfl (.tmp 59) (.tmp 61) 25 rfl w.heap.size 3 i1 (.int .i64 0) 1 8 Try.underlying25 hi1 hz1 hs1 hy1 rfl (by omega) _ _ _ rfl (HO.out.1.alloc (.cells #[.int .i64 x] 3)) _ rfl 1 [.int .i64 x] (RdV.lit _ #[.int .i64 x] 3 1 1 1 rfl (by simp [Value.oneCell'])) (by unfold maxLen; omega) (by omega) (by have := HO.out.2.2.2; simp; omega) ?_; intro v6 w6 ho hg hn; have hm6 := (HO.out.2.2.1.al (o := .cells #[.int .i64 x] 3)).grown hg (HO.out.2.2.1.al.own (HO.out.1.alloc (.cells #[.int .i64 x] 3))); have hb6 := (HO.out.2.1.alloc HO.out.2.2.2 (.cells #[.int .i64 x] 3)).grown hg (by have := HO.out.2.2.2; simp; omega) (fun k hk => (HO.out.1.lt k hk).1); have HO6 := Lib.hid (And.intro ho (And.intro hb6 (And.intro hm6 (And.intro (show World.grownBy _ w6 u10.ownBlock from hg) (show v6.ownBlock = u10.ownBlock ∨ v6.ownBlock = some ((putObj wr w.heap.size o).heap.size + 1) from hn.imp id (fun e => by rw [e]; simp)))))); clear ho hg hn hm6 hb6 HO))
            go_roundg k2
            case measure => omega
            case rel =>
              obtain ⟨hI5, hrp, hin, huN, hne, htk, hseen⟩ := H5.out
              obtain ⟨ho, hb6, hm6, hg6, hn6⟩ := HO6.out
              have hblt : bl < (putObj wr w.heap.size o).heap.size := by
                obtain ⟨b2, e1, e2⟩ := hrp 0 _ (List.getElem?_eq_getElem (by omega))
                cases e1
                exact World.block_lt_of_cell? _ _ e2
              refine ⟨i + 1, by go_num, Lib.hid ⟨by omega, O2 ++ [x], hI5.push HX.out.1 (Nat.le_refl _) (by simp) hin huN hb6 hm6 ho, ?_, ?_, fun y hy => ?_⟩⟩
              · refine rd_grown (hrp.below ((Below.refl _ _).alloc (Nat.le_refl _) _)) hg6 (fun b e1 e2 => ?_)
                exact hne b b e1 e2.symm rfl
              · intro b k e1 e2 e3
                subst e3
                cases e1
                rcases hn6 with e | e
                · exact hne bl bl rfl (e ▸ e2) rfl
                · rw [e] at e2
                  cases e2
                  omega
              · rw [htk, List.mem_append] at hy
                rw [← List.append_assoc, List.mem_append]
                rcases hy with hy | hy
                · exact .inl (hseen y hy)
                · exact .inr (by simpa using hy)
        · obtain rfl : l.length = i := by omega
          rw [List.take_length] at hseen
          have hclo := hI5.close (fun y hy => by
            exact hseen y ((H4.out.2.2 y).2 hy))
          have HN := Lib.hid hclo
          have HH := HP.out.2.2
          clear hI5 hclo hseen hrd hne hi hik
          go_wp2
          go_roundg k1
          case measure => omega
          case rel => exact Lib.hid ⟨Dl ++ [u], O2, by rw [List.length_append, List.length_singleton]; omega, HN.out⟩

set_option maxHeartbeats 16000000 in
set_option maxRecDepth 100000 in
theorem reachB_calls (h : CdS w gc ga go gi gp gm lk arcs ob ib cls row val tg pb cb) (V : List Int) (hV : ∀ x, cls x ≠ none → x ∈ V) (hVl : V.length ≤ 1000) (hlk : 0 ≤ lk ∧ lk ≤ 1000000) (v : Int) (hv : cls v ≠ none) (g12 ba12 : Nat) (SA : List Int) (hg12 : w.cell? ⟨g12, 0, none⟩ = some (.map (some ba12))) (hgc12 : g12 ≠ gc) (hSA : MQ w ba12 (seenF SA)) :
    Calls Try.prog 31 #[.pointer (some ⟨gc, 0, none⟩), .int .i64 v, .func (.func 34) #[.pointer (some ⟨gc, 0, none⟩)] #[], .func (.func 35) #[] #[.pointer (some ⟨g12, 0, none⟩)]] w fun e w' => ∃ bs S, e = .returned (.map (some bs)) ∧ w.heap.size ≤ bs ∧ MQ w' bs (seenF S) ∧ S.Nodup ∧ (∀ x, x ∈ S ↔ Cl (fun x y => (∃ e, arcs e = some (y, x)) ∧ y ∈ SA) v x) ∧
      CdS w' gc ga go gi gp gm (lk + S.length) arcs ob ib cls row val tg pb cb ∧ Kpt (· = gc) w w' := by
  obtain ⟨i1, hi1, hz1, hs1, hy1⟩ := info_parts Lw.info_int
  have hcb := h.m.lt
  have HM0 := Lib.hid h.m.hc
  have hmk := run_mkI w
  obtain ⟨o, hup, hm1⟩ := (MQ.new w).update (P := Try.prog) (T := 71) Try.underlying71 Try.underlying3 v (.int .i64 1)
  have hdom : ∀ x, Cl (fun x y => (∃ e, arcs e = some (y, x)) ∧ y ∈ SA) v x → cls x ≠ none := fun x hx => by
    induction hx with
    | base => exact hv
    | step _ hn _ => obtain ⟨e, he⟩ := hn.1; exact (h.en e _ he).1
  have hb1 : Below w.heap.size w (putObj (w.alloc (.map #[] 0)) w.heap.size o) := below_putObj ((Below.refl _ _).alloc (Nat.le_refl _) _) (Nat.le_refl _) o
  have hb2 : Below w.heap.size w ((putObj (w.alloc (.map #[] 0)) w.heap.size o).alloc (.cells #[.int .i64 v] 3)) := hb1.alloc hb1.size _
  have hsz : (putObj (w.alloc (.map #[] 0)) w.heap.size o).heap.size = w.heap.size + 1 := by rw [putObj_size]; simp
  have hm2 : MQ ((putObj (w.alloc (.map #[] 0)) w.heap.size o).alloc (.cells #[.int .i64 v] 3)) w.heap.size (seenF [v]) := by
    have h1 := hm1.al (o := .cells #[.int .i64 v] 3)
    rw [show updV (fun _ => none) v (some (.int .i64 1)) = seenF [v] by
      have := seenF_add [] v
      rw [List.nil_append] at this
      rw [← this]
      rfl] at h1
    exact h1
  have hst : RcI w gc ga go gi gp gm lk arcs ob ib cls row val tg pb cb (fun x y => (∃ e, arcs e = some (y, x)) ∧ y ∈ SA) v w.heap.size [] [] [v] (.slice (some ⟨(putObj (w.alloc (.map #[] 0)) w.heap.size o).heap.size, 0, none⟩) 1 1) ((putObj (w.alloc (.map #[] 0)) w.heap.size o).alloc (.cells #[.int .i64 v] 3)) := by
    refine ⟨kpt_belowB (Kpt.refl _ _) hb2, ?_, hm2, World.ownsRow_lit _ #[.int .i64 v] 1 (by rw [putObj_size]; simp) (by decide) rfl, by simp, fun x hx => by simp at hx; subst hx; exact .base, fun x hx => by simp at hx, by simp⟩
    rw [List.length_nil, show lk + ((0 : Nat) : Int) = lk by omega]
    exact h.below hb2
  rw [hsz] at hst
  have HE := Lib.hid (And.intro hg12 (And.intro hgc12 (And.intro hSA (hSA.ne HM0.out))))
  have HS := Lib.hid hst
  have HX := Lib.hid (And.intro hcb (And.intro hV hdom))
  clear h hcb hv hm1 hb1 hb2 hm2 hst hdom hV hg12 hgc12 hSA
  go_enter Try.func31, Try.ntmps31
  go_wp2_with fail
  clear hup hmk
  go_loopg [10] (V.length + 1) (fun kq v10 w' => Hid (∃ Dl O, Dl.length + kq = V.length + 1 ∧ RcI w gc ga go gi gp gm lk arcs ob ib cls row val tg pb cb (fun x y => (∃ e, arcs e = some (y, x)) ∧ y ∈ SA) v w.heap.size Dl Dl O v10 w'))
  case atStart => exact Lib.hid ⟨[], [v], by simp, HS.out⟩
  case round =>
    clear HS
    obtain ⟨Dl, O, hdk, hI⟩ := hrel.out
    clear hrel
    have hlen := nodup_le hI.nd (m := V) fun x hx => HX.out.2.1 x (HX.out.2.2 x (hI.al x hx))
    rw [List.length_append] at hlen
    rcases List.eq_nil_or_concat O with rfl | ⟨O', u, rfl⟩
    · obtain ⟨A10, c10, rfl⟩ := own_slice hI.r
      have HQ := Lib.hid hI
      clear hI hlen hdk
      go_wp2
      go_ret
      refine ⟨_, Dl, rfl, Nat.le_refl _, by simpa using HQ.out.m, by simpa using HQ.out.nd, HQ.out.fin, HQ.out.c, HQ.out.k⟩
    · obtain ⟨k1, rfl⟩ : ∃ k1, gk = k1 + 1 := ⟨gk - 1, by rw [List.length_concat] at hlen; omega⟩
      rw [List.concat_eq_append] at hI hlen
      obtain ⟨n, hn⟩ : ∃ n, O'.length = n := ⟨_, rfl⟩
      rw [List.length_append, List.length_singleton, hn] at hlen
      have hr := hI.r
      rw [List.length_append, List.length_singleton, hn, ints_app] at hr
      obtain ⟨g, c, rfl, _, _⟩ := hr.form (by omega)
      have cu := (hr.cellAt n (by omega)).trans (show (ints O' ++ ints [u])[n]? = some (.int .i64 u) by
        rw [List.getElem?_append_right (by simp [ints, hn]), show n - (ints O').length = 0 by simp [ints, hn]]; rfl)
      have hcap := own_capS hr
      have hpop := hI.pop hn
      have c4 := hI.c.m.hc.cell 4 rfl
      have f4 := hI.c.m.hc.free 4
      have huD : cls u ≠ none := HX.out.2.2 u (hI.al u (by simp))
      obtain ⟨m, hm⟩ : ∃ m, n + 1 = m := ⟨_, rfl⟩
      have m1 : (m : Int) - 1 = (n : Int) := by omega
      have m2 : (m : Int) > 0 := by omega
      have n0 : (0 : Int) ≤ (n : Int) := by omega
      have n1 : (n : Int) < (m : Int) := by omega
      have n2 : (n : Int) ≤ (c : Int) := by omega
      have m3 : (m : Int) ≤ 1000 := by omega
      have l1 : 0 ≤ lk + (Dl.length : Int) ∧ lk + (Dl.length : Int) ≤ 2000000 := by omega
      obtain ⟨l0, hl0⟩ : ∃ l0, lk + (Dl.length : Int) = l0 := ⟨_, rfl⟩
      rw [hl0] at hpop c4 l1
      rw [hm]
      have HP := Lib.hid (And.intro hpop (And.intro huD (And.intro hdk hlen)))
      clear hI hr hpop huD hcap hl0 hdk hlen hm
      go_upto_region 7 with (fail)
      refine gen_world (fun W => RcI w gc ga go gi gp gm lk arcs ob ib cls row val tg pb cb (fun x y => (∃ e, arcs e = some (y, x)) ∧ y ∈ SA) v w.heap.size Dl (Dl ++ [u]) O' (.slice (some ⟨g, 0, none⟩) n c) W) HP.out.1 ?_
      clear cu c4 f4
      intro w3 hI3
      have HI3 := Lib.hid hI3
      have HNX := Lib.hid (tails_calls hI3.c u HP.out.2.1)
      clear hI3
      go_wp2_with fail
      refine HNX.out.mono ?_
      clear HNX
      rintro e w4 ⟨vl, l, rfl, hol, hb4, hll, hlm⟩
      obtain ⟨Al, cl, rfl⟩ := own_slice hol
      have hrd := (RdI.of_own hol).1
      have hI4 := HI3.out.belowB HX.out.1 hb4
      have HNE := Lib.hid (show ∀ b k, Al = some ⟨b, 0, none⟩ → (Value.slice (some ⟨g, 0, none⟩) n c).ownBlock = some k → k ≠ b from fun b k e1 e2 e3 => by
        subst e1 e3
        have h1 := (HI3.out.r.lt k e2).2
        have h2 := (hol.lt k rfl).1
        omega)
      have H4 := Lib.hid (And.intro hI4 (And.intro hrd hlm))
      have HLL := Lib.hid hll
      clear hI4 hrd hlm hol hb4 hll HI3
      go_wp2_with fail
      go_loopg [10, 44] l.length (fun kq v10 v44 w' => ∃ i : Nat, v44 = .int .i64 (i : Int) ∧ Hid (i + kq = l.length ∧ ∃ O2, RcI w gc ga go gi gp gm lk arcs ob ib cls row val tg pb cb (fun x y => (∃ e, arcs e = some (y, x)) ∧ y ∈ SA) v w.heap.size Dl (Dl ++ [u]) O2 v10 w' ∧ RdI w' Al l ∧ (∀ b k, Al = some ⟨b, 0, none⟩ → v10.ownBlock = some k → k ≠ b) ∧ ∀ y ∈ l.take i, y ∈ SA →  y ∈ (Dl ++ [u]) ++ O2))
      case atStart => exact ⟨0, rfl, Lib.hid ⟨by omega, O', H4.out.1, H4.out.2.1, HNE.out, fun y hy => by simp at hy⟩⟩
      case round =>
        obtain ⟨i, rfl, hI⟩ := hrel
        obtain ⟨hik, O2, hI5, hrd, hne, hseen⟩ := hI.out
        clear hI
        by_cases hi : i < l.length
        · obtain ⟨k2, rfl⟩ : ∃ k2, gk = k2 + 1 := ⟨gk - 1, by omega⟩
          obtain ⟨x, hx⟩ : ∃ x, l[i]? = some x := ⟨_, List.getElem?_eq_getElem hi⟩
          obtain ⟨bl, rfl, cx⟩ := hrd i x hx
          have hsl := look_seen hI5.m x
          have htk := take_next2 hx
          have hxl := List.mem_of_getElem? hx
          have i0 : (0 : Int) ≤ (i : Int) := by omega
          have i1' : (i : Int) < (l.length : Int) := by omega
          have i2 : (l.length : Int) ≤ 1000 := by have := HLL.out; omega
          by_cases hin : x ∈ (Dl ++ [u]) ++ O2
          · rw [seenF_yes hin] at hsl
            have HN := Lib.hid (And.intro hI5 (And.intro hrd (And.intro hne (show ∀ y ∈ l.take (i + 1), y ∈ SA →  y ∈ (Dl ++ [u]) ++ O2 from fun y hy hyS => by
              rw [htk, List.mem_append] at hy
              rcases hy with hy | hy
              · exact hseen y hy hyS
              · obtain rfl : y = x := by simpa using hy
                exact hin))))
            clear hI5 hrd hne hseen htk hx hi hin hxl
            go_wp2
            go_roundg k2
            case measure => omega
            case rel => exact ⟨i + 1, by go_num, Lib.hid ⟨by omega, O2, HN.out.1, HN.out.2.1, HN.out.2.2.1, HN.out.2.2.2⟩⟩
          · rw [seenF_no hin] at hsl
            by_cases hxS : x ∈ SA
            rotate_left
            · have HMY := Lib.hid (decide_eq_false hxS ▸ ahead_calls wr g12 ba12 SA x (kpt_cellP hI5.k HE.out.1 HE.out.2.1) (HE.out.2.2.1.move (hI5.k.block ba12 HE.out.2.2.1.lt (fun e => HE.out.2.2.2 e.symm))))
              have HN := Lib.hid (And.intro hI5 (And.intro hrd (And.intro hne (show ∀ y ∈ l.take (i + 1), y ∈ SA → y ∈ (Dl ++ [u]) ++ O2 from fun y hy hyS => by
                rw [htk, List.mem_append] at hy
                rcases hy with hy | hy
                · exact hseen y hy hyS
                · obtain rfl : y = x := by simpa using hy
                  exact absurd hyS hxS))))
              clear hI5 hrd hne hseen htk hx hi hin hxl hxS
              go_wp2_with fail
              refine HMY.out.mono ?_
              clear HMY
              rintro e wr ⟨rfl, rfl⟩
              go_wp2
              go_roundg k2
              case measure => omega
              case rel => exact ⟨i + 1, by go_num, Lib.hid ⟨by omega, O2, HN.out.1, HN.out.2.1, HN.out.2.2.1, HN.out.2.2.2⟩⟩
            have HMY := Lib.hid (decide_eq_true hxS ▸ ahead_calls wr g12 ba12 SA x (kpt_cellP hI5.k HE.out.1 HE.out.2.1) (HE.out.2.2.1.move (hI5.k.block ba12 HE.out.2.2.1.lt (fun e => HE.out.2.2.2 e.symm))))
            obtain ⟨o, hup, hm2⟩ := hI5.m.update (P := Try.prog) (T := 71) Try.underlying71 Try.underlying3 x (.int .i64 1)
            rw [seenF_add] at hm2
            have hbp : Below w.heap.size wr (putObj wr w.heap.size o) := below_putObj ⟨rfl, rfl, rfl, Nat.le_refl _, fun _ _ => rfl⟩ (Nat.le_refl _) o
            have hop : (putObj wr w.heap.size o).ownsRow w.heap.size 3 1 u10 O2.length (ints O2) := own_putQ hI5.m hI5.r o
            have hrp := rd_put hI5.m hrd o
            have hszp : w.heap.size ≤ (putObj wr w.heap.size o).heap.size := by rw [putObj_size]; exact hI5.k.size
            have huN : (fun x y => (∃ e, arcs e = some (y, x)) ∧ y ∈ SA) u x := ⟨(H4.out.2.2 x).1 hxl, hxS⟩
            have hO2l : O2.length ≤ 1000 := by
              have := nodup_le hI5.nd (m := V) fun x hx => HX.out.2.1 x (HX.out.2.2 x (hI5.al x hx))
              rw [List.length_append] at this
              omega
            have HO := Lib.hid (And.intro hop (And.intro hbp (And.intro hm2 hszp)))
            have H5 := Lib.hid (And.intro hI5 (And.intro hrp (And.intro hin (And.intro huN (And.intro hne (And.intro htk hseen))))))
            clear hI5 hrd hne hseen htk hx hi hin hm2 hbp hop hrp huN hxl hszp
            go_wp2_with fail
            refine HMY.out.mono ?_
            clear HMY
            rintro e wr ⟨rfl, rfl⟩
            go_wp2_with ((at_builtin; refine wpList_append_any rfl (.tmp 59) (.tmp 61) 25 rfl w.heap.size 3 i1 (.int .i64 0) 1 8 Try.underlying25 hi1 hz1 hs1 hy1 rfl (by omega) _ _ _ rfl (HO.out.1.alloc (.cells #[.int .i64 x] 3)) _ rfl 1 [.int .i64 x] (RdV.lit _ #[.int .i64 x] 3 1 1 1 rfl (by simp [Value.oneCell'])) (by unfold maxLen; omega) (by omega) (by have := HO.out.2.2.2; simp; omega) ?_; intro v6 w6 ho hg hn; have hm6 := (HO.out.2.2.1.al (o := .cells #[.int .i64 x] 3)).grown hg (HO.out.2.2.1.al.own (HO.out.1.alloc (.cells #[.int .i64 x] 3))); have hb6 := (HO.out.2.1.alloc HO.out.2.2.2 (.cells #[.int .i64 x] 3)).grown hg (by have := HO.out.2.2.2; simp; omega) (fun k hk => (HO.out.1.lt k hk).1); have HO6 := Lib.hid (And.intro ho (And.intro hb6 (And.intro hm6 (And.intro (show World.grownBy _ w6 u10.ownBlock from hg) (show v6.ownBlock = u10.ownBlock ∨ v6.ownBlock = some ((putObj wr w.heap.size o).heap.size + 1) from hn.imp id (fun e => by rw [e]; simp)))))); clear ho hg hn hm6 hb6 HO))
            go_roundg k2
            case measure => omega
            case rel =>
              obtain ⟨hI5, hrp, hin, huN, hne, htk, hseen⟩ := H5.out
              obtain ⟨ho, hb6, hm6, hg6, hn6⟩ := HO6.out
              have hblt : bl < (putObj wr w.heap.size o).heap.size := by
                obtain ⟨b2, e1, e2⟩ := hrp 0 _ (List.getElem?_eq_getElem (by omega))
                cases e1
                exact World.block_lt_of_cell? _ _ e2
              refine ⟨i + 1, by go_num, Lib.hid ⟨by omega, O2 ++ [x], hI5.push HX.out.1 (Nat.le_refl _) (by simp) hin huN hb6 hm6 ho, ?_, ?_, fun y hy hyS => ?_⟩⟩
              · refine rd_grown (hrp.below ((Below.refl _ _).alloc (Nat.le_refl _) _)) hg6 (fun b e1 e2 => ?_)
                exact hne b b e1 e2.symm rfl
              · intro b k e1 e2 e3
                subst e3
                cases e1
                rcases hn6 with e | e
                · exact hne bl bl rfl (e ▸ e2) rfl
                · rw [e] at e2
                  cases e2
                  omega
              · rw [htk, List.mem_append] at hy
                rw [← List.append_assoc, List.mem_append]
                rcases hy with hy | hy
                · exact .inl (hseen y hy hyS)
                · exact .inr (by simpa using hy)
        · obtain rfl : l.length = i := by omega
          rw [List.take_length] at hseen
          have hclo := hI5.close (fun y hy => by
            exact hseen y ((H4.out.2.2 y).2 hy.1) hy.2)
          have HN := Lib.hid hclo
          have HH := HP.out.2.2
          clear hI5 hclo hseen hrd hne hi hik
          go_wp2
          go_roundg k1
          case measure => omega
          case rel => exact Lib.hid ⟨Dl ++ [u], O2, by rw [List.length_append, List.length_singleton]; omega, HN.out⟩

end
end Go.Proofs.Ythomnpgpbhpojaa.Cd

/- cond: New, Head, Same, Members, Looked, AddVertex. -/
namespace Go.Proofs.Ythomnpgpbhpojaa.Cd
open Go Go.RowKit Go.Proofs.Ythomnpgpbhpojaa.Mem Go.Proofs.Ythomnpgpbhpojaa.Sl Go.Proofs.Ythomnpgpbhpojaa.Lw Go.Proofs.Ythomnpgpbhpojaa.Pt Go.Proofs.YthomnpgpbhpojaaW.PrintWords Go.Proofs.YthomnpgpbhpojaaW.PrintLast
attribute [local go_sem ↓] Go.wp_at_zero Go.wp_at_succ
set_option linter.unusedSimpArgs false
set_option linter.unusedVariables false

theorem run_mkA (w : World) : (Instr.makeMap 53 none).run Try.prog w = .ok (.map (some w.heap.size)) (w.alloc (.map #[] 0)) := rfl
theorem run_mkM (w : World) : (Instr.makeMap 54 none).run Try.prog w = .ok (.map (some w.heap.size)) (w.alloc (.map #[] 0)) := rfl

def headV (cls : Int → Option Nat) (row : Nat → List Int) (v : Int) : Int := match cls v with | none => 0 | some b => Lib.minOf (row b)
def sameV (cls : Int → Option Nat) (a b : Int) : Bool := decide (cls a ≠ none ∧ cls a = cls b)
section
variable {w w' W W' : World} {gc ga go gi gp gm : Nat} {lk : Int} {arcs : Int → Option (Int × Int)} {ob ib : Int → Nat} {cls : Int → Option Nat} {row : Nat → List Int} {val : Nat → Value} {tg : Nat → Nat × Int} {pb cb : Nat → Prop} {fo fi : Int → Option Value}
set_option maxHeartbeats 4000000 in
theorem cHead (h : CdS w gc ga go gi gp gm lk arcs ob ib cls row val tg pb cb) (v : Int) (hl : ∀ v b, cls v = some b → (row b).length ≤ 500000) :
    Calls Try.prog 20 #[.pointer (some ⟨gc, 0, none⟩), .int .i64 v] w fun e w' => e = .returned (.tuple #[.int .i64 (headV cls row v), .bool (cls v).isSome]) ∧ w' = w := by
  have q3 := h.m.hc.cell 3 rfl
  have HC := Lib.hid (show Calls Try.prog 44 #[.pointer (some ⟨gp, 0, none⟩), .int .i64 v] w fun e w' => e = .returned (.tuple #[.int .i64 (headV cls row v), .bool (cls v).isSome]) ∧ w' = w from head_calls h.p v (fun v b hv => by have := hl v b hv; omega))
  clear h
  go_enter Try.func20, Try.ntmps20
  go_wp2_with fail
  refine HC.out.mono ?_
  clear HC
  rintro e w1 ⟨rfl, rfl⟩
  go_wp2
  go_ret2
  exact ⟨rfl, rfl⟩

set_option maxHeartbeats 4000000 in
theorem cSame (h : CdS w gc ga go gi gp gm lk arcs ob ib cls row val tg pb cb) (a b : Int) :
    Calls Try.prog 10 #[.pointer (some ⟨gc, 0, none⟩), .int .i64 a, .int .i64 b] w fun e w' => e = .returned (.bool (sameV cls a b)) ∧ Below w.heap.size w w' := by
  have q3 := h.m.hc.cell 3 rfl
  have HC := Lib.hid (show Calls Try.prog 22 #[.pointer (some ⟨gp, 0, none⟩), .int .i64 a, .int .i64 b] w fun e w' => e = .returned (.bool (sameV cls a b)) ∧ Below w.heap.size w w' from same_calls h.p a b)
  clear h
  go_enter Try.func10, Try.ntmps10
  go_wp2_with fail
  refine HC.out.mono ?_
  clear HC
  rintro e w1 ⟨rfl, hb⟩
  have HB := Lib.hid hb
  clear hb
  go_wp2
  go_ret
  exact ⟨rfl, HB.out⟩

set_option maxHeartbeats 4000000 in
theorem cMembers (h : CdS w gc ga go gi gp gm lk arcs ob ib cls row val tg pb cb) (v : Int) (hl : ∀ v b, cls v = some b → (row b).length ≤ 500000) :
    Calls Try.prog 9 #[.pointer (some ⟨gc, 0, none⟩), .int .i64 v] w fun e w' => ∃ u, e = .returned u ∧ w'.ownsRow w.heap.size 3 1 u (mems cls row v).length (ints (mems cls row v)) ∧ Below w.heap.size w w' := by
  have q3 := h.m.hc.cell 3 rfl
  have HC := Lib.hid (members_calls h.p v (fun v b hv => by have := hl v b hv; omega))
  clear h
  go_enter Try.func9, Try.ntmps9
  go_wp2_with fail
  refine HC.out.mono ?_
  clear HC
  rintro e w1 ⟨u, rfl, ho, hb⟩
  have HB := Lib.hid (And.intro ho hb)
  clear ho hb
  go_wp2
  go_ret
  exact ⟨_, rfl, HB.out⟩

set_option maxHeartbeats 4000000 in
theorem cNew (w : World) : Calls Try.prog 5 #[] w fun e w' => ∃ gc ga go gi gp gm tg, e = .returned (.pointer (some ⟨gc, 0, none⟩)) ∧ Below w.heap.size w w' ∧
    CdS w' gc ga go gi gp gm 0 (fun _ => none) (fun _ => 0) (fun _ => 0) (fun _ => none) (fun _ => []) (fun _ => .nilFunc) tg (fun k => k = gm) (fun k => w.heap.size ≤ k ∧ k < w'.heap.size) := by
  have hm1 := run_mkA w
  have hm2 := run_mkM (w.alloc (.map #[] 0))
  have hm3 := run_mkM ((w.alloc (.map #[] 0)).alloc (.map #[] 0))
  have hA : MQ (((w.alloc (.map #[] 0)).alloc (.map #[] 0)).alloc (.map #[] 0)) w.heap.size (fun _ => none) := (MQ.new w).al.al
  have hO : MQ (((w.alloc (.map #[] 0)).alloc (.map #[] 0)).alloc (.map #[] 0)) (w.heap.size + 1) (fun _ => none) := by
    have := (MQ.new (w.alloc (.map #[] 0))).al (o := .map #[] 0)
    simpa using this
  have hI : MQ (((w.alloc (.map #[] 0)).alloc (.map #[] 0)).alloc (.map #[] 0)) (w.heap.size + 2) (fun _ => none) := by
    have := MQ.new ((w.alloc (.map #[] 0)).alloc (.map #[] 0))
    simpa using this
  have hb3 : Below w.heap.size w (((w.alloc (.map #[] 0)).alloc (.map #[] 0)).alloc (.map #[] 0)) := (((Below.refl _ _).alloc (Nat.le_refl _) _).alloc (by simp) _).alloc (by simp; omega) _
  obtain ⟨w3, hw3⟩ : ∃ w3, ((w.alloc (.map #[] 0)).alloc (.map #[] 0)).alloc (.map #[] 0) = w3 := ⟨_, rfl⟩
  have hs3 : w3.heap.size = w.heap.size + 3 := by rw [← hw3]; simp
  have HN := Lib.hid (new_calls w3)
  rw [← hw3] at HN
  have HX := Lib.hid (And.intro hA (And.intro hO (And.intro hI hb3)))
  have HS := Lib.hid hs3
  have HW := Lib.hid hw3
  clear hA hO hI hb3 hw3 hs3
  go_enter Try.func5, Try.ntmps5
  go_wp2_with fail
  refine HN.out.mono ?_
  clear HN hm1 hm2 hm3
  rintro e w4 ⟨gp, gm, rfl, l1, l2, hP, hb4⟩
  have H4 := Lib.hid (And.intro l1 (And.intro l2 (And.intro hP hb4)))
  clear l1 l2 hP hb4
  go_wp2
  go_ret
  obtain ⟨l1, l2, hP, hb4⟩ := H4.out
  obtain ⟨hA, hO, hI, hb3⟩ := HX.out
  rw [HW.out] at l1 l2 hb4 hA hO hI hb3
  have hs3 := HS.out
  have hs4 := hb4.size
  have h5 : Below w4.heap.size w4 (w4.alloc (.cells #[.map (some w.heap.size), .map (some (w.heap.size + 1)), .map (some (w.heap.size + 1 + 1)), .pointer (some ⟨gp, 0, none⟩), .int .i64 0] 58)) := (Below.refl _ _).alloc (Nat.le_refl _) _
  have hP5 := hP.below h5
  have hA5 := (hA.below hb4 hA.lt).below h5 (by have := hA.lt; omega)
  have hO5 := (hO.below hb4 hO.lt).below h5 (by have := hO.lt; omega)
  have hI5 := (hI.below hb4 hI.lt).below h5 (by have := hI.lt; omega)
  have hgm := hP.hm.lt
  have hgp := hP.hp.lt
  refine ⟨w4.heap.size, w.heap.size, w.heap.size + 1, w.heap.size + 2, gp, gm, fun k => if k = w.heap.size then (0, 0) else if k = w.heap.size + 1 then (1, 0) else if k = w.heap.size + 2 then (2, 0) else (3, 0), rfl, (hb3.trans (hb4.mono hb3.size)).alloc (by omega) _, ⟨⟨At.made rfl rfl, hA5, hO5, hI5, fun v hv => absurd rfl hv, fun v hv => absurd rfl hv, ⟨by simp, by simp, by simp, ?_, fun v hv => absurd rfl hv, fun v hv => absurd rfl hv⟩, by omega, by omega, by omega, by omega, fun v hv => absurd rfl hv, fun v hv => absurd rfl hv, ?_, ?_, ?_, ?_, fun v hv => absurd rfl hv, fun v hv => absurd rfl hv, ?_, ?_, fun k hk => hk.2⟩, hP5, fun e p he => (nomatch he), ⟨[], by simp, fun e he => absurd rfl he⟩⟩⟩
  · rw [if_neg (by omega), if_neg (by omega), if_neg (by omega)]
  all_goals (simp; omega)
end
end Go.Proofs.Ythomnpgpbhpojaa.Cd
