/- cover: Build. -/
import Derived.Test.YtdohfjidnbhfnaaGo29
import Derived.Test.YtdohfjidnbhfnaaGo26
namespace Go.Proofs.Ytdohfjidnbhfnaa.Cv
open Go Go.RowKit Go.Proofs.Ytdohfjidnbhfnaa.Mem Go.Proofs.Ytdohfjidnbhfnaa.Tj Go.Proofs.Ytdohfjidnbhfnaa.Scc Go.Proofs.Ytdohfjidnbhfnaa.Sp Go.Proofs.Ytdohfjidnbhfnaa.Sl Go.Proofs.Ytdohfjidnbhfnaa.Lw Go.Proofs.YtdohfjidnbhfnaaW.PrintWords Go.Proofs.YtdohfjidnbhfnaaW.PrintLast
attribute [local go_sem ↓] Go.wp_at_zero Go.wp_at_succ
set_option linter.unusedSimpArgs false
set_option linter.unusedVariables false

theorem setN_other {nd : List Nd} {x y : Nat} {po lo : Int} (h : x ≠ y) : (setN nd x po lo)[y]? = nd[y]? := by
  unfold setN
  split
  · rw [List.getElem?_set_ne h]
  · rfl
theorem asg_other (ℓ : Nat → Nat) : ∀ (L : List Nat) (nx : Nat) (nd : List Nd) (y : Nat), y ∉ L → (asg ℓ L nx nd)[y]? = nd[y]?
  | [], _, _, _, _ => rfl
  | x :: L, nx, nd, y, h => by
    rw [asg, asg_other ℓ L _ _ y (fun hh => h (by simp [hh])), setN_other (fun e => h (by simp [e]))]
theorem asg_at (ℓ : Nat → Nat) : ∀ (L : List Nat) (nx : Nat) (nd : List Nd) (i x : Nat) (d : Nd), L.Nodup → L[i]? = some x → nd[x]? = some d → (asg ℓ L nx nd)[x]? = some { d with post := ((nx + i : Nat) : Int), low := ((nx + i - ℓ x : Nat) : Int) }
  | [], _, _, i, x, _, _, h, _ => by simp at h
  | y :: L, nx, nd, 0, x, d, hn, h, hd => by
    cases h
    rw [List.nodup_cons] at hn
    rw [asg, asg_other ℓ L _ _ _ hn.1, setN, hd]
    dsimp only
    rw [List.getElem?_set_self (List.getElem?_eq_some_iff.1 hd).1]
    rfl
  | y :: L, nx, nd, i + 1, x, d, hn, h, hd => by
    rw [List.nodup_cons] at hn
    have hx : L[i]? = some x := by simpa using h
    have hne : y ≠ x := fun e => hn.1 (e ▸ List.mem_of_getElem? hx)
    have := asg_at ℓ L (nx + 1) (setN nd y nx ((nx - ℓ y : Nat) : Int)) i x d hn.2 hx (by rw [setN_other hne]; exact hd)
    rw [asg, this, show nx + 1 + i = nx + (i + 1) by omega]
theorem asgA_other : ∀ (L : List Nat) (nx : Nat) (al : List Int) (j : Nat), j < nx → (asgA L nx al)[j]? = al[j]?
  | [], _, _, _, _ => rfl
  | x :: L, nx, al, j, h => by rw [asgA, asgA_other L _ _ j (by omega), List.getElem?_set_ne (by omega)]
theorem asgA_at : ∀ (L : List Nat) (nx : Nat) (al : List Int) (i x : Nat), L[i]? = some x → nx + i < al.length → (asgA L nx al)[nx + i]? = some (x : Int)
  | [], _, _, i, x, h, _ => by simp at h
  | y :: L, nx, al, 0, x, h, hl => by
    cases h
    rw [asgA, asgA_other L _ _ _ (by omega), Nat.add_zero, List.getElem?_set_self (by omega)]
  | y :: L, nx, al, i + 1, x, h, hl => by
    have := asgA_at L (nx + 1) (al.set nx y) i x (by simpa using h) (by rw [List.length_set]; omega)
    rw [asgA, ← this, show nx + 1 + i = nx + (i + 1) by omega]
theorem number_nd {n : Nat} {pars : List Int} {rk : Nat → Nat} (h : Rk n pars rk) : NdOk n pars (asg (fun x => (bl pars (x : Int)).length) (bl pars (-1)) 1 (pars.map mkN)) := by
  refine ⟨by rw [asg_length, List.length_map]; exact h.len, fun v x hx => ?_⟩
  have hv : v < n := by
    have := (List.getElem?_eq_some_iff.1 hx).1
    rw [asg_length, List.length_map, h.len] at this
    exact this
  obtain ⟨h1, h2, h3⟩ := post_of h hv
  obtain ⟨p, hp⟩ : ∃ p, pars[v]? = some p := ⟨_, List.getElem?_eq_getElem (by rw [h.len]; exact hv)⟩
  have hd : (pars.map mkN)[v]? = some (mkN p) := by rw [List.getElem?_map, hp]; rfl
  have h4 := asg_at (fun x => (bl pars (x : Int)).length) _ 1 _ _ v _ (bl_nodup h _ (.inl rfl)) h1 hd
  rw [h4] at hx
  cases hx
  have e1 : 1 + (postN pars v - 1) = postN pars v := by omega
  refine ⟨?_, ?_, ?_⟩
  · rw [List.getD_eq_getElem?_getD, hp]; rfl
  · dsimp only; rw [e1]
  · dsimp only; rw [e1]; rfl
theorem number_al {n : Nat} {pars : List Int} {rk : Nat → Nat} (h : Rk n pars rk) {v : Nat} (hv : v < n) : (asgA (bl pars (-1)) 1 (List.replicate (n + 1) 0))[postN pars v]? = some (v : Int) := by
  obtain ⟨h1, h2, h3⟩ := post_of h hv
  have := asgA_at _ 1 (List.replicate (n + 1) 0) _ v h1 (by rw [List.length_replicate]; omega)
  rwa [show 1 + (postN pars v - 1) = postN pars v by omega] at this

theorem made_nodes (n : Nat) : (madeCells #[.int .i64 0, .int .i64 0, .int .i64 0, .pointer none] (n * 4)).toList = nds (List.replicate n zN) := by
  apply List.ext_getElem?
  intro j
  have hl : (nds (List.replicate n zN)).length = n * 4 := by rw [nds_length, List.length_replicate]
  rcases Nat.lt_or_ge j (n * 4) with hj | hj
  · have hz : (List.replicate n zN)[j / 4]? = some zN := by rw [List.getElem?_replicate, if_pos (by omega)]
    obtain ⟨a1, a2, a3, a4⟩ := nds_at _ _ _ hz
    have hlhs : (madeCells #[.int .i64 0, .int .i64 0, .int .i64 0, .pointer none] (n * 4)).toList[j]? = some (#[Value.int .i64 0, .int .i64 0, .int .i64 0, .pointer none][j % 4]!) := by
      simp [madeCells, hj]
    rw [hlhs]
    have hd : j = j / 4 * 4 + j % 4 := by omega
    have hm : j % 4 = 0 ∨ j % 4 = 1 ∨ j % 4 = 2 ∨ j % 4 = 3 := by omega
    rcases hm with h | h | h | h
    · rw [h, show j = j / 4 * 4 by omega, a1]; rfl
    · rw [h, show j = j / 4 * 4 + 1 by omega, a2]; rfl
    · rw [h, show j = j / 4 * 4 + 2 by omega, a3]; rfl
    · rw [h, show j = j / 4 * 4 + 3 by omega, a4]; rfl
  · rw [List.getElem?_eq_none (by simp [madeCells]; exact hj), List.getElem?_eq_none (by rw [hl]; exact hj)]
theorem info_node : (Try.prog.info? 62).map (fun i => (i.zero, i.size, i.bytes)) = some (some (.agg #[.int .i64 0, .int .i64 0, .int .i64 0, .pointer none]), 4, 32) := by kernel_rfl
theorem run_make_nodes (n : Nat) (hn : n ≤ 1000) (w : World) : (Instr.makeSlice 63 (.int .i64 (n : Int)) (.int .i64 (n : Int))).run Try.prog w = .ok (.slice (some ⟨w.heap.size, 0, none⟩) n n) (w.alloc (.cells (madeCells #[.int .i64 0, .int .i64 0, .int .i64 0, .pointer none] (n * 4)) 62)) := by
  obtain ⟨i, hi, hz, hs, hb⟩ := info_parts info_node
  have := run_make (P := Try.prog) w 63 62 i _ Try.underlying63 hi hz .i64 .i64 n n (by omega) (Int.le_refl _) (by rw [hb]; omega) (by omega)
  rw [hs, Int.toNat_natCast] at this
  exact this

structure Cov (w0 w : World) (gc n : Nat) (arcs0 arcs : List (Int × Int)) (gn ga : Nat) (nd : List Nd) (al : List Int) (L : Nat → List (Int × Int)) : Prop where
  c : CovS w gc gn ga n nd al
  ok : NdOk n (parsOf n arcs0) nd
  ls : LS n arcs (parsOf n arcs0) w0.heap.size nd (fun _ => True) L w
  al : ∀ v, v < n → al[postN (parsOf n arcs0) v]? = some (v : Int)
  g1 : w0.heap.size ≤ gc
  g2 : w0.heap.size ≤ gn
  g3 : w0.heap.size ≤ ga

def BStart (w2 : World) (n : Nat) (v10 : Value) (W : World) : Prop :=
  ∃ gc gn ga, v10 = .pointer (some ⟨gc, 0, none⟩) ∧ w2.heap.size ≤ gc ∧ w2.heap.size ≤ gn ∧ w2.heap.size ≤ ga ∧ CovS W gc gn ga n (List.replicate n zN) (List.replicate (n + 1) 0) ∧ Below w2.heap.size w2 W
theorem mk_bstart {w2 W : World} {n m1 gc gn ga : Nat} (hm : n + 1 = m1) (h1 : At W gc [.slice (some ⟨gn, 0, none⟩) n n, .slice (some ⟨ga, 0, none⟩) m1 m1] 65) (h2 : At W gn (nds (List.replicate n zN)) 62) (h3 : At W ga (ints (List.replicate m1 0)) 3)
    (hg : w2.heap.size ≤ gc ∧ w2.heap.size ≤ gn ∧ w2.heap.size ≤ ga) (hb : Below w2.heap.size w2 W) : BStart w2 n (.pointer (some ⟨gc, 0, none⟩)) W := by
  subst hm
  exact ⟨gc, gn, ga, rfl, hg.1, hg.2.1, hg.2.2, ⟨h1, h2, h3, by simp, by simp⟩, hb⟩

def BuildPost (w : World) (n : Nat) (arcs : List (Int × Int)) (e : Ending) (w' : World) : Prop :=
  Below w.heap.size w w' ∧ ((good (rng n) arcs = false ∧ e = .returned (.tuple #[.pointer none, .int .i64 1])) ∨ (∃ comp m, CompOf n (PE (rng n) arcs) comp m ∧ Good n arcs ∧ acyB arcs m n = false ∧ e = .returned (.tuple #[.pointer none, .int .i64 110])) ∨
    (∃ comp m, CompOf n (PE (rng n) arcs) comp m ∧ acyB arcs m n = true) ∧ Acy n arcs ∧ (∃ rk, Rk n (parsOf n arcs) rk) ∧ ∃ gc gn ga nd al L, e = .returned (.tuple #[.pointer (some ⟨gc, 0, none⟩), .int .i64 0]) ∧ Cov w w' gc n arcs arcs gn ga nd al L)

theorem vs_set {n i : Nat} (hi : i < n) : ((rng i ++ List.replicate (n - i) 0 : List Int).set i (i : Int)) = rng (i + 1) ++ List.replicate (n - (i + 1)) 0 := by
  obtain ⟨k, hk⟩ : ∃ k, n - i = k + 1 := ⟨n - i - 1, by omega⟩
  rw [hk, show n - (i + 1) = k by omega, List.replicate_succ, List.set_append, if_neg (by rw [rng_length]; omega), rng_length, Nat.sub_self, List.set_cons_zero]
  unfold rng
  rw [List.range_succ, List.map_append, List.append_assoc]
  rfl

set_option maxHeartbeats 16000000 in
set_option maxRecDepth 100000 in
theorem build_calls (w : World) (n : Nat) (Aa : Option Addr) (ca : Nat) (arcs : List (Int × Int)) (ha : RdA w Aa arcs) (hn : n ≤ 256) (hm : arcs.length ≤ 100000) :
    Calls Try.prog 12 #[.int .i64 (n : Int), .slice Aa arcs.length ca] w fun e w' => BuildPost w n arcs e w' := by
  have e1 : decide ((n : Int) < 0) = false := by simp
  have e2 : decide ((n : Int) > 256) = false := by simp; omega
  have hmk := fun wx => run_make_row' (P := Try.prog) 24 3 (.int .i64 0) 8 Try.underlying24 Scc.info_int rfl .i64 .i64 n (by omega) (by omega) wx
  have HA := Lib.hid ha
  obtain ⟨m, hlen⟩ : ∃ m, arcs.length = m := ⟨_, rfl⟩
  rw [hlen] at hm ⊢
  have HM := Lib.hid hlen
  clear ha hlen
  go_enter Try.func12, Try.ntmps12
  go_wp2
  refine gen_loopw (fun W => At W w.heap.size (ints (List.replicate n 0)) 3 ∧ Below w.heap.size w W) ⟨At.made rfl (made_ints n), (Below.refl _ _).alloc (Nat.le_refl _) _⟩ ?_
  obtain ⟨bv, hbv⟩ : ∃ bv, w.heap.size = bv := ⟨_, rfl⟩
  rw [hbv]
  have HBV := Lib.hid hbv
  rintro w1 h1
  rw [← hbv] at h1
  have H1 := Lib.hid h1
  clear h1 hbv hmk e1 e2
  go_loopg [21] n (fun kq v21 w' => ∃ i : Nat, v21 = .int .i64 (i : Int) ∧ Hid (i + kq = n ∧ At w' bv (ints (rng i ++ List.replicate (n - i) 0)) 3 ∧ Below w.heap.size w w'))
  case atStart =>
    refine ⟨0, rfl, Lib.hid ⟨by omega, ?_, H1.out.2⟩⟩
    have := H1.out.1
    rw [HBV.out] at this
    simpa [rng] using this
  case round =>
    clear H1
    obtain ⟨i, rfl, hI⟩ := hrel
    obtain ⟨hik, hat, hb⟩ := hI.out
    clear hI
    by_cases hi : i < n
    · obtain ⟨k1, rfl⟩ : ∃ k1, gk = k1 + 1 := ⟨gk - 1, by omega⟩
      have hz : (rng i ++ List.replicate (n - i) 0)[i]? = some 0 := by
        rw [List.getElem?_append_right (by rw [rng_length]; omega), rng_length, Nat.sub_self, List.getElem?_replicate, if_pos (by omega)]
      have c1 := hat.cell i (Mem.ints_at _ hz)
      have f1 := hat.free i
      have i0 : (0 : Int) ≤ (i : Int) := by omega
      have i1 : (i : Int) < (n : Int) := by omega
      have i2 : (n : Int) ≤ 256 := by omega
      have HP := Lib.hid (And.intro hik (And.intro hat (And.intro hb hi)))
      clear hik hat hb hz hi
      go_wp2
      go_roundg k1
      case measure => omega
      case rel =>
        refine ⟨i + 1, by go_num, Lib.hid ⟨by have := HP.out.1; omega, ?_, HP.out.2.2.1.setCell (by have := HBV.out; dsimp only; omega) _⟩⟩
        exact HP.out.2.1.put (by rw [ints_set, vs_set HP.out.2.2.2])
    · obtain rfl : n = i := by omega
      rw [Nat.sub_self, List.replicate_zero, List.append_nil] at hat
      have hvs : RdI wr (some ⟨bv, 0, none⟩) (rng n) := fun j x hx => ⟨bv, rfl, hat.cell j (Mem.ints_at _ hx)⟩
      obtain ⟨s1, s2, s3⟩ := acyS_ok (l := rng n) (sl := sorted (rng n)) (arcs := arcs) (k := n + m + 1) (by rw [rng_sorted]) (by rw [rng_sorted]; exact (rng_lt n).imp fun h => by omega) (by rw [rng_length]; omega) (by rw [rng_length, HM.out]; omega)
      obtain ⟨q1, q2, q3⟩ := orderS_ok (l := rng n) (sl := sorted (rng n)) (arcs := arcs) (k := n + m + 1) (by rw [rng_sorted]) (by rw [rng_sorted]; exact (rng_lt n).imp fun h => by omega) (by rw [rng_length]; omega) (by rw [HM.out]; omega) (by rw [rng_length, HM.out]; omega)
      rw [rng_sorted] at s2 s3 q3
      have har := HA.out.below hb
      have HV := Lib.hid (And.intro hvs (And.intro hb har))
      clear hat hb hi hik
      cases hgd : good (rng n) arcs with
      | false =>
        have hA := acy_calls wr (some ⟨bv, 0, none⟩) Aa n ca (n + m + 1) (rng n) arcs (5, false) hvs har (by rw [rng_length]; omega) (by rw [HM.out]; omega) (by rw [rng_sorted]; exact s2 (rng_nodup n) hgd)
        rw [rng_length, HM.out] at hA
        have HAC := Lib.hid hA
        have HGD := Lib.hid hgd
        clear hA hgd s1 s2 s3 q1 q2 q3 hvs har
        go_wp2_with fail
        refine HAC.out.mono ?_
        rintro e w2 ⟨hb2, rfl⟩
        have HB2 := Lib.hid hb2
        clear hb2 HAC
        go_wp2_with fail
        go_ret2
        exact ⟨HV.out.2.1.trans (HB2.out.mono HV.out.2.1.size), .inl ⟨HGD.out, rfl⟩⟩
      | true =>
        obtain ⟨comp, mm, hco, hac⟩ := s3 (rng_nodup n) hgd
        obtain ⟨comp', mm', F, hco', hF, hord⟩ := q3 (rng_nodup n) hgd
        rw [rng_length] at hco hco' hac hF
        obtain ⟨rfl, rfl⟩ := hco.unique hco'
        have hgood := good_rng.1 hgd
        cases hab : acyB arcs mm n with
        | false =>
          rw [hab] at hac
          have hA := acy_calls wr (some ⟨bv, 0, none⟩) Aa n ca (n + m + 1) (rng n) arcs (0, false) hvs har (by rw [rng_length]; omega) (by rw [HM.out]; omega) (by rw [rng_sorted]; exact hac)
          rw [rng_length, HM.out] at hA
          have HAC := Lib.hid hA
          have HGD := Lib.hid (And.intro hco (And.intro hgood hab))
          clear hA hgd s1 s2 s3 q1 q2 q3 hvs har hco hac hco' hF hord hgood hab
          go_wp2_with fail
          refine HAC.out.mono ?_
          rintro e w2 ⟨hb2, rfl⟩
          have HB2 := Lib.hid hb2
          clear hb2 HAC
          go_wp2_with fail
          go_ret2
          exact ⟨HV.out.2.1.trans (HB2.out.mono HV.out.2.1.size), .inr (.inl ⟨comp, mm, HGD.out.1, HGD.out.2.1, HGD.out.2.2, rfl⟩)⟩
        | true =>
          rw [hab] at hac
          have hA := acy_calls wr (some ⟨bv, 0, none⟩) Aa n ca (n + m + 1) (rng n) arcs (0, true) hvs har (by rw [rng_length]; omega) (by rw [HM.out]; omega) (by rw [rng_sorted]; exact hac)
          rw [rng_length, HM.out] at hA
          obtain ⟨htop, hFm⟩ := top_of hgood hco hab hF
          rw [hFm] at hord
          have HAC := Lib.hid hA
          have HGD := Lib.hid (And.intro hco (And.intro hgood (And.intro hab (And.intro htop hord))))
          clear hA hgd s1 s2 s3 q1 q2 q3 hvs har hco hac hco' hF hord hgood hab htop hFm
          go_wp2_with fail
          refine HAC.out.mono ?_
          rintro e w2 ⟨hb2, rfl⟩
          have HB2 := Lib.hid hb2
          clear hb2 HAC
          go_upto_region 14 with (fail)
          have hmk1 := fun wx => run_make_nodes n (by omega) wx
          obtain ⟨m1, hm1⟩ : ∃ m1, n + 1 = m1 := ⟨_, rfl⟩
          have e1 : (n : Int) + 1 = (m1 : Int) := by omega
          have e3 : IntKind.i64.wrap ((n : Int) + 1) = (m1 : Int) := by rw [IntKind.wrap_i64]; omega
          have hmk2 := fun wx => run_make_row' (P := Try.prog) 24 3 (.int .i64 0) 8 Try.underlying24 Scc.info_int rfl .i64 .i64 m1 (by omega) (by omega) wx
          have HM1 := Lib.hid hm1
          clear hm1
          go_cut [10] (fun v10 wc => Hid (BStart w2 n v10 wc))
          case first =>
            go_region
            all_goals go_wp2_with fail
            all_goals go_meet
            all_goals (exact Lib.hid (mk_bstart HM1.out (At.made (by simp) rfl) (by repeat (first | (refine At.made ?_ (made_nodes n); simp; done) | refine At.drew ?_ | refine At.al ?_)) (by repeat (first | (refine At.made ?_ (made_ints m1); simp; done) | refine At.drew ?_ | refine At.al ?_)) ⟨by first | (simp; done) | (simp; omega) | omega, by first | (simp; done) | (simp; omega) | omega, by first | (simp; done) | (simp; omega) | omega⟩ (by repeat (first | exact Below.refl _ _ | refine Below.drew ?_ | refine Below.alloc ?_ (by first | (simp; done) | (simp; omega)) _))))
          case rest =>
            clear hmk1 hmk2
            obtain ⟨gc, gn, ga, rfl, g1, g2, g3, hC, hb3⟩ := hcut.out
            clear hcut
            obtain ⟨hvs, hbw, har⟩ := HV.out
            have hw02 : Below w.heap.size w w2 := hbw.trans (HB2.out.mono hbw.size)
            have hw03 : Below w.heap.size w wc := hw02.trans (hb3.mono hw02.size)
            have hrk := HGD.out.2.2.2.1.rk HGD.out.2.1
            have hN := number_calls w wc gc gn ga n ca Aa arcs _ hC hw03 HA.out (by have := hw02.size; omega) HGD.out.2.1 hrk (by omega) (by rw [HM.out]; omega)
            rw [HM.out] at hN
            have HN := Lib.hid hN
            have hv3 := (hvs.below HB2.out).below hb3
            have HC := Lib.hid (And.intro g1 (And.intro g2 (And.intro g3 (And.intro hC (And.intro hw02 (And.intro hw03 (And.intro hrk hv3)))))))
            clear hN hvs hbw har hw02 hw03 hrk hv3 g1 g2 g3 hC hb3
            go_wp2_with fail
            refine HN.out.mono ?_
            clear HN
            rintro e w4 ⟨rfl, hC4, hk4⟩
            obtain ⟨g1, g2, g3, hC, hw02, hw03, hrk, hv3⟩ := HC.out
            have hs2 := hw02.size
            have hw04 : Below w.heap.size w w4 := below_kpt hw03 hk4 (by rintro k (h | h) <;> omega) hw03.size
            have hbv2 : RdI w4 (some ⟨bv, 0, none⟩) (rng n) := fun j x hx => by
              obtain ⟨b, e1, e2⟩ := hv3 j x hx
              cases e1
              refine ⟨bv, rfl, ?_⟩
              have hlt : bv < w2.heap.size := by
                have h1 := HV.out.1
                obtain ⟨b', e3, e4⟩ := h1 j x hx
                cases e3
                have h2' := World.block_lt_of_cell? _ _ e4
                have := HB2.out.size
                show bv < _
                dsimp only at h2' this
                omega
              have hbk : w4.heap[bv]? = wc.heap[bv]? := hk4.block bv (World.block_lt_of_cell? _ _ e2) (by rintro (h | h) <;> omega)
              exact (World.cell?_of_block (w := wc) hbk).trans e2
            have hL := mlabel_calls w w4 gc gn ga n ca n Aa (some ⟨bv, 0, none⟩) arcs _ _ _ (n + m + 1) hC4 hw04 HA.out hbv2 (by omega) HGD.out.2.1 HGD.out.2.2.2.1 (by rw [rng_sorted]; exact HGD.out.2.2.2.2) (number_nd hrk) (by omega) (by rw [HM.out]; omega)
            rw [HM.out] at hL
            have HL := Lib.hid hL
            have H4 := Lib.hid (And.intro hw04 (And.intro hC4 hk4))
            clear hL hw04 hC4 hk4 hbv2 g1 g2 g3 hC hw02 hw03 hrk hv3 hs2
            go_wp2_with fail
            refine HL.out.mono ?_
            clear HL
            rintro e w5 ⟨rfl, nd, L, hC5, hN5, hL5, hk5⟩
            have H5 := Lib.hid (And.intro hC5 (And.intro hN5 (And.intro hL5 hk5)))
            clear hC5 hN5 hL5 hk5
            go_wp2_with fail
            go_ret2
            obtain ⟨g1, g2, g3, hC, hw02, hw03, hrk, hv3⟩ := HC.out
            obtain ⟨hw04, hC4, hk4⟩ := H4.out
            obtain ⟨hC5, hN5, hL5, hk5⟩ := H5.out
            have hs2 := hw02.size
            have hs4 := hw04.size
            obtain ⟨hco, hgood, hab, htop, hord⟩ := HGD.out
            have hw05 : Below w.heap.size w w5 := below_kpt hw04 hk5 (by rintro k rfl; omega) hw04.size
            refine ⟨hw05, .inr (.inr ⟨⟨comp, mm, hco, hab⟩, (acy_of hgood hco hab).1, ⟨_, hrk⟩, gc, gn, ga, nd, asgA (bl (parsOf n arcs) (-1)) 1 (List.replicate (n + 1) 0), L, rfl, ?_⟩)⟩
            refine ⟨hC5, hN5, ⟨fun v hv hs => ?_, hL5.inj⟩, fun v hv => number_al hrk hv, by omega, by omega, by omega⟩
            obtain ⟨y, g', e1, e2, e3, e4⟩ := hL5.sets v hv hs
            exact ⟨y, g', e1, e2, by omega, e4⟩

end Go.Proofs.Ytdohfjidnbhfnaa.Cv

/- The references' Graph, walked. -/
namespace Go.Proofs.Ytdohfjidnbhfnaa.Lw
open Go Go.RowKit Go.Proofs.Ytdohfjidnbhfnaa.Mem Go.Proofs.Ytdohfjidnbhfnaa.Sl Go.Proofs.Ytdohfjidnbhfnaa.Scc Go.Proofs.Ytdohfjidnbhfnaa.Tj Go.Proofs.YtdohfjidnbhfnaaW.PrintWords Go.Proofs.YtdohfjidnbhfnaaW.PrintLast
attribute [local go_sem ↓] Go.wp_at_zero Go.wp_at_succ
set_option linter.unusedSimpArgs false
set_option linter.unusedVariables false

theorem info_edge : (Try.prog.info? 36).map (fun i => (i.zero, i.size, i.bytes)) = some (some (.agg #[.int .i64 0, .int .i64 0, .int .i64 0, .int .u32 0]), 4, 32) := by kernel_rfl

def RdE (w : World) (A : Option Addr) (l : List (Int × Int)) : Prop := ∀ (j : Nat) (u v : Int), l[j]? = some (u, v) → ∃ b, A = some ⟨b, 0, none⟩ ∧ w.cell? ⟨b, j * 4 + 1, none⟩ = some (.int .i64 u) ∧ w.cell? ⟨b, j * 4 + 2, none⟩ = some (.int .i64 v)
theorem RdE.below {w w' : World} {A : Option Addr} {l : List (Int × Int)} (h : RdE w A l) (hb : Below w.heap.size w w') : RdE w' A l := fun j u v hx => by
  obtain ⟨b, h1, h2, h3⟩ := h j u v hx
  exact ⟨b, h1, keep_at hb h2, keep_at hb h3⟩

def EdC (l : List (Int × Int)) (xs : List Value) : Prop := xs.length = l.length * 4 ∧ ∀ (j : Nat) (u v : Int), l[j]? = some (u, v) → xs[j * 4 + 1]? = some (.int .i64 u) ∧ xs[j * 4 + 2]? = some (.int .i64 v)
theorem EdC.nil : EdC [] [] := ⟨rfl, fun j u v h => by simp at h⟩
theorem EdC.snoc {l : List (Int × Int)} {xs : List Value} {u v : Int} {e f : Value} (h : EdC l xs) : EdC (l ++ [(u, v)]) (xs ++ [e, .int .i64 u, .int .i64 v, f]) := by
  refine ⟨by simp [h.1]; omega, fun j a b hx => ?_⟩
  have hl := h.1
  rcases Nat.lt_or_ge j l.length with hj | hj
  · rw [List.getElem?_append_left hj] at hx
    rw [List.getElem?_append_left (by omega), List.getElem?_append_left (by omega)]
    exact h.2 j a b hx
  · have hj2 : j = l.length := by
      have := (List.getElem?_eq_some_iff.1 hx).1
      simp at this
      omega
    subst hj2
    rw [List.getElem?_append_right (Nat.le_refl _), Nat.sub_self] at hx
    cases hx
    rw [List.getElem?_append_right (by omega), List.getElem?_append_right (by omega), show l.length * 4 + 1 - xs.length = 1 by omega, show l.length * 4 + 2 - xs.length = 2 by omega]
    exact ⟨rfl, rfl⟩

structure GS (w : World) (gx gb : Nat) (A : Option Addr) (n cg : Nat) (sl : List Int) (vE : Value) (l : List (Int × Int)) (W : World) : Prop where
  x : At W gx [.slice A n cg, vE, .int .i64 0, .int .i64 0] 27
  b : At W gb [.slice none 0 0, .slice none 0 0, .int .i64 0, .int .i64 0] 27
  ne : gx ≠ gb
  hx : w.heap.size ≤ gx
  hb : w.heap.size ≤ gb
  o : ∃ xs, EdC l xs ∧ Two w 3 1 (.slice A n cg) n (ints sl) 36 4 vE l.length xs W

section
variable {w W W' : World} {gx gb n cg : Nat} {A : Option Addr} {sl : List Int} {vE : Value} {l : List (Int × Int)}
theorem GS.below (h : GS w gx gb A n cg sl vE l W) (hb : Below W.heap.size W W') : GS w gx gb A n cg sl vE l W' := by
  obtain ⟨xs, h1, h2⟩ := h.o
  exact ⟨h.x.below hb h.x.lt, h.b.below hb h.b.lt, h.ne, h.hx, h.hb, xs, h1, h2.below hb⟩
theorem own_beside {base g i s k : Nat} {e T : TypeId} {v u : Value} {xs cs : List Value} (h : W.ownsRow base e s v k xs) (hg : At W g cs T) (hne : T ≠ e) : (W.setCell ⟨g, i, none⟩ u).ownsRow base e s v k xs :=
  h.kept (row := some g) ⟨rfl, rfl, rfl, by simp, fun m _ hm => by
    have : m ≠ g := fun e => hm (by rw [e])
    exact heap_setCell_other W ⟨g, i, none⟩ m u this⟩ (.inr (own_off h hg hne).symm)
end


end Go.Proofs.Ytdohfjidnbhfnaa.Lw
