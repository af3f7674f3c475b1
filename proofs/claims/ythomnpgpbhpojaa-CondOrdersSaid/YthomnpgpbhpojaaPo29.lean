/- The reference's AddVertex. -/
import Derived.Test.YthomnpgpbhpojaaPo28
import Derived.Test.YthomnpgpbhpojaaPo7
namespace Go.Proofs.Ythomnpgpbhpojaa.Cd
open Go Go.RowKit Go.MapKept Go.Proofs.Ythomnpgpbhpojaa.Mem Go.Proofs.Ythomnpgpbhpojaa.Sl Go.Proofs.Ythomnpgpbhpojaa.Lw Go.Proofs.Ythomnpgpbhpojaa.Pt Go.Proofs.YthomnpgpbhpojaaW.PrintWords Go.Proofs.YthomnpgpbhpojaaW.PrintLast
attribute [local go_sem ↓] Go.wp_at_zero Go.wp_at_succ
set_option linter.unusedSimpArgs false
set_option linter.unusedVariables false


theorem RdV.of_ints {w : World} {base n c : Nat} {e : TypeId} {A : Option Addr} {l : List Int} (h : w.ownsRow base e 1 (.slice A n c) n (ints l)) : RdV w (.slice A n c) n 1 (ints l) := by
  refine ⟨by have := h.1; omega, fun u hu => by
    unfold ints at hu
    obtain ⟨x, _, rfl⟩ := List.mem_map.1 hu
    rfl, ?_⟩
  rcases h.2 with ⟨h1, h2⟩ | ⟨g, cap, cur, h1, _⟩
  · exact .inl ⟨h2 ▸ h1, h2⟩
  · cases h1
    refine .inr ⟨_, _, rfl, fun j u hu => ?_⟩
    have hj := (List.getElem?_eq_some_iff.1 hu).1
    have := (h.cellAt j (by have := h.1; omega)).trans hu
    rw [add_plain]
    simpa using this
set_option maxHeartbeats 8000000 in
set_option maxRecDepth 100000 in
theorem addvR_no {gw : Int} (w : World) (A AE : Option Addr) (c m ce : Nat) (sl : List Int) (v : Int) (hv : RdI w A sl) (hs : sl.Pairwise (· < ·)) (hl : sl.length ≤ 1000) (hin : v ∈ sl) :
    Calls Try.prog 23 #[gV A sl.length c (.slice AE m ce) gw, .int .i64 v] w fun e w' => e = .returned (.tuple #[gV A sl.length c (.slice AE m ce) gw, .bool false]) ∧ Below w.heap.size w w' := by
  have hpc := fun (W : World) (hW : Below w.heap.size w W) => place_calls (gw := gw) W A AE c m ce sl v (hv.below hW) hs (by omega)
  have hpl : (0 : Int) ≤ plI sl v := by rw [plI_pos (by simpa using hin)]; omega
  obtain ⟨pl, hp⟩ : ∃ pl, plI sl v = pl := ⟨_, rfl⟩
  rw [hp] at hpl
  simp only [hp] at hpc
  unfold gV at hpc ⊢
  have HPC := Lib.hid hpc
  clear hv hs hl hin hp hpc
  go_enter Try.func23, Try.ntmps23
  go_wp2_with fail
  have hb2 : Below w.heap.size w ((w.alloc (.cells #[.slice A sl.length c, .slice AE m ce, .int .i64 0, .int .i64 gw] 28)).alloc (.cells #[.slice none 0 0, .slice none 0 0, .int .i64 0, .int .i64 0] 28)) := ((Below.refl _ _).alloc (Nat.le_refl _) _).alloc (by simp) _
  refine (HPC.out _ hb2).mono ?_
  rintro e w3 ⟨rfl, hb3⟩
  have hat1 : At w3 w.heap.size [.slice A sl.length c, .slice AE m ce, .int .i64 0, .int .i64 gw] 28 := ((At.made (w := w) (a := #[.slice A sl.length c, .slice AE m ce, .int .i64 0, .int .i64 gw]) rfl rfl).al).below hb3 (by simp; omega)
  have hat2 : At w3 (w.heap.size + 1) [.slice none 0 0, .slice none 0 0, .int .i64 0, .int .i64 0] 28 := (At.made (by simp) rfl).below hb3 (by simp)
  have HB := Lib.hid (hb2.trans (hb3.mono (by simp; omega)))
  have hat3 : At ((((w3.setCell ⟨w.heap.size + 1, 0, none⟩ (.slice A sl.length c)).setCell ⟨w.heap.size + 1, 1, none⟩ (.slice AE m ce)).setCell ⟨w.heap.size + 1, 2, none⟩ (.int .i64 0)).setCell ⟨w.heap.size + 1, 3, none⟩ (.int .i64 gw)) (w.heap.size + 1) [.slice A sl.length c, .slice AE m ce, .int .i64 0, .int .i64 gw] 28 := (((hat2.put rfl).put rfl).put rfl).put rfl
  have t0 := hat3.cell 0 rfl
  have t1 := hat3.cell 1 rfl
  have t2 := hat3.cell 2 rfl
  have t3 := hat3.cell 3 rfl
  have q0 := hat1.cell 0 rfl
  have q1 := hat1.cell 1 rfl
  have q2 := hat1.cell 2 rfl
  have q3 := hat1.cell 3 rfl
  have f0 := hat2.free 0
  have f1 := hat2.free 1
  have f2 := hat2.free 2
  have f3 := hat2.free 3
  have r0 := hat2.cell 0 rfl
  have r1 := hat2.cell 1 rfl
  have r2 := hat2.cell 2 rfl
  have r3 := hat2.cell 3 rfl
  clear hat1 hat2 hat3 hb2 hb3 HPC
  go_wp2
  refine bodyPost_ret (v := .tuple #[.agg #[.slice A sl.length c, .slice AE m ce, .int .i64 0, .int .i64 gw], .bool false]) ?_ rfl ⟨rfl, (((HB.out.setCell (by simp) _).setCell (by simp) _).setCell (by simp) _).setCell (by simp) _⟩
  simp only [results]; go_simp
set_option maxHeartbeats 8000000 in
set_option maxRecDepth 100000 in
theorem addvR_yes {gw : Int} (w : World) (A AE : Option Addr) (c m ce n : Nat) (sl : List Int) (v : Int) (hv : w.ownsRow 0 3 1 (.slice A n c) n (ints sl)) (hn : sl.length = n) (hs : sl.Pairwise (· < ·)) (hl : n ≤ 1000) (hin : v ∉ sl) :
    Calls Try.prog 23 #[gV A n c (.slice AE m ce) gw, .int .i64 v] w fun e w' => ∃ A' c', e = .returned (.tuple #[gV A' (n + 1) c' (.slice AE m ce) gw, .bool true]) ∧ w'.ownsRow w.heap.size 3 1 (.slice A' (n + 1) c') (n + 1) (ints (sorted (sl ++ [v]))) ∧ Below w.heap.size w w' := by
  obtain ⟨i1, hi1, hz1, hs1, hy1⟩ := info_parts Lw.info_int
  have hvr := (RdI.of_own hv).1
  have hpc := fun (W : World) (hW : Below w.heap.size w W) => place_calls (gw := gw) W A AE c m ce sl v (hvr.below hW) hs (by omega)
  have hpl : plI sl v = -1 := by unfold plI; rw [if_neg (by simpa using hin)]
  simp only [hpl, hn] at hpc
  unfold gV at hpc ⊢
  have HPC := Lib.hid hpc
  have HV := Lib.hid (RdV.of_ints hv)
  have HN := Lib.hid hn
  clear hv hvr hs hin hpl hpc hn
  go_enter Try.func23, Try.ntmps23
  go_wp2_with fail
  have hb2 : Below w.heap.size w ((w.alloc (.cells #[.slice A n c, .slice AE m ce, .int .i64 0, .int .i64 gw] 28)).alloc (.cells #[.slice none 0 0, .slice none 0 0, .int .i64 0, .int .i64 0] 28)) := ((Below.refl _ _).alloc (Nat.le_refl _) _).alloc (by simp) _
  refine (HPC.out _ hb2).mono ?_
  rintro e w3 ⟨rfl, hb3⟩
  have hat1 : At w3 w.heap.size [.slice A n c, .slice AE m ce, .int .i64 0, .int .i64 gw] 28 := ((At.made (w := w) (a := #[.slice A n c, .slice AE m ce, .int .i64 0, .int .i64 gw]) rfl rfl).al).below hb3 (by simp; omega)
  have hat2 : At w3 (w.heap.size + 1) [.slice none 0 0, .slice none 0 0, .int .i64 0, .int .i64 0] 28 := (At.made (by simp) rfl).below hb3 (by simp)
  have hb := hb2.trans (hb3.mono (by simp; omega))
  have HV3 := Lib.hid (HV.out.below hb)
  have HA := Lib.hid (And.intro hat1 (And.intro hat2 hb))
  have q0 := (hat1.al (o := .cells #[] 3)).cell 0 rfl
  clear hat1 hat2 hb2 hb3 HPC hb
  go_wp2_with ((at_builtin; first | (refine wpList_append_any rfl (.tmp 11) (.tmp 13) 25 rfl w3.heap.size 3 i1 (.int .i64 0) 1 8 Try.underlying25 hi1 hz1 hs1 hy1 rfl (by omega) _ 0 [] rfl (own_made rfl (Nat.le_refl _)) _ rfl n (ints sl) (HV3.out.below ((Below.refl _ _).alloc (Nat.le_refl _) (.cells #[] 3))) (by unfold maxLen; omega) (by omega) (by simp) ?_; intro v3 w4 ho hg hn; rw [Nat.zero_add, List.nil_append] at ho; have hb4 : Below w3.heap.size w3 w4 := ((Below.refl w3.heap.size w3).alloc (Nat.le_refl _) (.cells #[] 3)).grown hg (by simp) (fun k hk => by cases hk; exact Nat.le_refl _); have HO := Lib.hid (And.intro ho (And.intro hb4 hb4.size)); clear ho hg hn hb4) | (refine wpList_append_any rfl (.tmp 14) (.tmp 16) 25 rfl w3.heap.size 3 i1 (.int .i64 0) 1 8 Try.underlying25 hi1 hz1 hs1 hy1 rfl (by omega) _ n (ints sl) rfl (HO.out.1.alloc (.cells #[.int .i64 v] 3)) _ rfl 1 [.int .i64 v] (RdV.lit w4 #[.int .i64 v] 3 1 1 1 rfl (by simp [Value.oneCell'])) (by unfold maxLen; omega) (by omega) (by have := HO.out.2.2; simp; omega) ?_; intro v5 w5 ho hg hn; have hb5 := (HO.out.2.1.alloc HO.out.2.2 (.cells #[.int .i64 v] 3)).grown hg (by have := HO.out.2.2; simp; omega) (fun k hk => (HO.out.1.lt k hk).1); have HO2 := Lib.hid (And.intro ho hb5); clear ho hg hn hb5)))
  clear q0
  obtain ⟨ho5, hb5⟩ := HO2.out
  obtain ⟨A5, c5, rfl⟩ := Lw.own_slice ho5
  have hlen : (sl ++ [v]).length = n + 1 := by rw [List.length_append, HN.out]; rfl
  have hsc := sorted_calls w5 A5 c5 (sl ++ [v]) (RdI.of_own (show w5.ownsRow w3.heap.size 3 1 (.slice A5 (n + 1) c5) (n + 1) (ints (sl ++ [v])) from by rw [ints_app]; exact ho5)).1 (by omega)
  rw [hlen] at hsc
  refine hsc.mono ?_
  rintro e w6 ⟨v6, rfl, hone⟩
  obtain ⟨hat1, hat2, hb⟩ := HA.out
  have hb6 : Below w3.heap.size w3 w6 := hb5.trans (hone.b.mono hb5.size)
  have h1 := hat1.below hb6 hat1.lt
  have h2 := hat2.below hb6 hat2.lt
  obtain ⟨A6, c6, rfl⟩ := Lw.own_slice hone.r
  have h1' : At (w6.setCell ⟨w.heap.size, 0, none⟩ (.slice A6 (n + 1) c6)) w.heap.size [.slice A6 (n + 1) c6, .slice AE m ce, .int .i64 0, .int .i64 gw] 28 := h1.put rfl
  have h2' : At (w6.setCell ⟨w.heap.size, 0, none⟩ (.slice A6 (n + 1) c6)) (w.heap.size + 1) [.slice none 0 0, .slice none 0 0, .int .i64 0, .int .i64 0] 28 := h2.off (by omega)
  have f := h1.free 0
  have p0 := h1.cell 0 rfl
  have q0 := h1'.cell 0 rfl
  have q1 := h1'.cell 1 rfl
  have q2 := h1'.cell 2 rfl
  have q3 := h1'.cell 3 rfl
  have f0 := h2'.free 0
  have f1 := h2'.free 1
  have f2 := h2'.free 2
  have f3 := h2'.free 3
  have r0 := h2'.cell 0 rfl
  have r1 := h2'.cell 1 rfl
  have r2 := h2'.cell 2 rfl
  have r3 := h2'.cell 3 rfl
  have h3 : At (((((w6.setCell ⟨w.heap.size, 0, none⟩ (.slice A6 (n + 1) c6)).setCell ⟨w.heap.size + 1, 0, none⟩ (.slice A6 (n + 1) c6)).setCell ⟨w.heap.size + 1, 1, none⟩ (.slice AE m ce)).setCell ⟨w.heap.size + 1, 2, none⟩ (.int .i64 0)).setCell ⟨w.heap.size + 1, 3, none⟩ (.int .i64 gw)) (w.heap.size + 1) [.slice A6 (n + 1) c6, .slice AE m ce, .int .i64 0, .int .i64 gw] 28 := (((h2'.put rfl).put rfl).put rfl).put rfl
  have t0 := h3.cell 0 rfl
  have t1 := h3.cell 1 rfl
  have t2 := h3.cell 2 rfl
  have t3 := h3.cell 3 rfl
  have HE := Lib.hid (And.intro hb (And.intro hb6 (And.intro hone (And.intro h1 (And.intro h2 hb5.size)))))
  clear h1 h2 h1' h2' h3 hat1 hat2 hb hb6 hone hsc ho5 hb5 HO2 HA hlen
  go_wp2
  refine bodyPost_ret (v := .tuple #[.agg #[.slice A6 (n + 1) c6, .slice AE m ce, .int .i64 0, .int .i64 gw], .bool true]) ?_ rfl ⟨A6, c6, rfl, ?_, ?_⟩
  · simp only [results]; go_simp
  · obtain ⟨hb, hb6, hone, h1, h2, hs5⟩ := HE.out
    have ho := own_mono (B' := w.heap.size) hone.r (by have := hb.size; have := hb6.size; have := hone.b.size; omega)
    have g1 := fun (k : Nat) (u : Value) (hk : ∃ cs, At w6 k cs 28) => fun {W : World} (hW : W.ownsRow w.heap.size 3 1 (.slice A6 (n + 1) c6) (n + 1) (ints (sorted (sl ++ [v])))) (i : Nat) => ownsRow_setCell_other hW (a := ⟨k, i, none⟩) (fun e => by
      obtain ⟨cs, hk⟩ := hk
      exact own_off ho hk (by decide) e.symm) u
    exact g1 _ _ ⟨_, h2⟩ (g1 _ _ ⟨_, h2⟩ (g1 _ _ ⟨_, h2⟩ (g1 _ _ ⟨_, h2⟩ (g1 _ _ ⟨_, h1⟩ ho 0) 0) 1) 2) 3
  · obtain ⟨hb, hb6, hone, h1, h2, hs5⟩ := HE.out
    exact (((((hb.trans (hb6.mono hb.size)).setCell (by simp) _).setCell (by simp) _).setCell (by simp) _).setCell (by simp) _).setCell (by simp) _
end Go.Proofs.Ythomnpgpbhpojaa.Cd

/- The reference's AddArc. -/
namespace Go.Proofs.Ythomnpgpbhpojaa.Cd
open Go Go.RowKit Go.MapKept Go.Proofs.Ythomnpgpbhpojaa.Mem Go.Proofs.Ythomnpgpbhpojaa.Sl Go.Proofs.Ythomnpgpbhpojaa.Lw Go.Proofs.Ythomnpgpbhpojaa.Pt Go.Proofs.YthomnpgpbhpojaaW.PrintWords Go.Proofs.YthomnpgpbhpojaaW.PrintLast
attribute [local go_sem ↓] Go.wp_at_zero Go.wp_at_succ
set_option linter.unusedSimpArgs false
set_option linter.unusedVariables false


set_option maxHeartbeats 8000000 in
set_option maxRecDepth 100000 in
theorem addaR_twice {gw : Int} (w : World) (A AE : Option Addr) (n c m ce : Nat) (es : List (Int × Int × Int)) (e u v : Int) (he : RdG w AE es) (hm : es.length = m) (hr : m ≤ 1000) (hin : ∃ p ∈ es, p.1 = e) :
    Calls Try.prog 26 #[gV A n c (.slice AE m ce) gw, .int .i64 e, .int .i64 u, .int .i64 v] w fun en w' => en = .returned (.tuple #[gV A n c (.slice AE m ce) gw, .int .i64 2]) ∧ Below w.heap.size w w' := by
  have hac := fun (W : World) (hW : Below w.heap.size w W) => at_calls (gw := gw) W A AE n c ce es e (he.below hW) (by omega)
  have hpl : (0 : Int) ≤ atI es e := by
    unfold atI
    cases hx : es.findIdx? (fun p => decide (p.1 = e)) with
    | some i => simp
    | none =>
      rw [List.findIdx?_eq_none_iff] at hx
      obtain ⟨p, hp, h1⟩ := hin
      have := hx p hp
      simp [h1] at this
  obtain ⟨pl, hp⟩ : ∃ pl, atI es e = pl := ⟨_, rfl⟩
  rw [hp] at hpl
  simp only [hp, hm] at hac
  unfold gV at hac ⊢
  have HPC := Lib.hid hac
  clear he hm hin hp hac
  go_enter Try.func26, Try.ntmps26
  go_wp2_with fail
  have hb2 : Below w.heap.size w ((w.alloc (.cells #[.slice A n c, .slice AE m ce, .int .i64 0, .int .i64 gw] 28)).alloc (.cells #[.slice none 0 0, .slice none 0 0, .int .i64 0, .int .i64 0] 28)) := ((Below.refl _ _).alloc (Nat.le_refl _) _).alloc (by simp) _
  refine (HPC.out _ hb2).mono ?_
  rintro e w3 ⟨rfl, hb3⟩
  have hat1 : At w3 w.heap.size [.slice A n c, .slice AE m ce, .int .i64 0, .int .i64 gw] 28 := ((At.made (w := w) (a := #[.slice A n c, .slice AE m ce, .int .i64 0, .int .i64 gw]) rfl rfl).al).below hb3 (by simp; omega)
  have hat2 : At w3 (w.heap.size + 1) [.slice none 0 0, .slice none 0 0, .int .i64 0, .int .i64 0] 28 := (At.made (by simp) rfl).below hb3 (by simp)
  have HB := Lib.hid (hb2.trans (hb3.mono (by simp; omega)))
  have q0 := hat1.cell 0 rfl
  have q1 := hat1.cell 1 rfl
  have q2 := hat1.cell 2 rfl
  have q3 := hat1.cell 3 rfl
  have f0 := hat2.free 0
  have f1 := hat2.free 1
  have f2 := hat2.free 2
  have f3 := hat2.free 3
  have r0 := hat2.cell 0 rfl
  have r1 := hat2.cell 1 rfl
  have r2 := hat2.cell 2 rfl
  have r3 := hat2.cell 3 rfl
  have hat3 : At ((((w3.setCell ⟨w.heap.size + 1, 0, none⟩ (.slice A n c)).setCell ⟨w.heap.size + 1, 1, none⟩ (.slice AE m ce)).setCell ⟨w.heap.size + 1, 2, none⟩ (.int .i64 0)).setCell ⟨w.heap.size + 1, 3, none⟩ (.int .i64 gw)) (w.heap.size + 1) [.slice A n c, .slice AE m ce, .int .i64 0, .int .i64 gw] 28 := (((hat2.put rfl).put rfl).put rfl).put rfl
  have t0 := hat3.cell 0 rfl
  have t1 := hat3.cell 1 rfl
  have t2 := hat3.cell 2 rfl
  have t3 := hat3.cell 3 rfl
  clear hat1 hat2 hat3 hb2 hb3 HPC
  go_wp2
  refine bodyPost_ret (v := .tuple #[.agg #[.slice A n c, .slice AE m ce, .int .i64 0, .int .i64 gw], .int .i64 2]) ?_ rfl ⟨rfl, (((HB.out.setCell (by simp) _).setCell (by simp) _).setCell (by simp) _).setCell (by simp) _⟩
  simp only [results]; go_simp
theorem plI_neg {sl : List Int} {v : Int} (h : v ∉ sl) : plI sl v = -1 := by unfold plI; rw [if_neg (by simpa using h)]
set_option maxHeartbeats 8000000 in
set_option maxRecDepth 100000 in
theorem addaR_nou {gw : Int} (w : World) (A AE : Option Addr) (n c m ce : Nat) (sl : List Int) (es : List (Int × Int × Int)) (e u v : Int) (hv : RdI w A sl) (hs : sl.Pairwise (· < ·)) (hn : sl.length = n) (hl : n ≤ 1000) (he : RdG w AE es) (hm : es.length = m) (hr : m ≤ 1000) (hin : ∀ p ∈ es, p.1 ≠ e) (hu : u ∉ sl) :
    Calls Try.prog 26 #[gV A n c (.slice AE m ce) gw, .int .i64 e, .int .i64 u, .int .i64 v] w fun en w' => en = .returned (.tuple #[gV A n c (.slice AE m ce) gw, .int .i64 5]) ∧ Below w.heap.size w w' := by
  have hac := fun (W : World) (hW : Below w.heap.size w W) => at_calls (gw := gw) W A AE n c ce es e (he.below hW) (by omega)
  have hpc := fun (x : Int) (W : World) (hW : Below w.heap.size w W) => place_calls (gw := gw) W A AE c m ce sl x (hv.below hW) hs (by omega)
  simp only [atI_no hin, hm] at hac
  simp only [hn] at hpc
  unfold gV at hac hpc ⊢
  have HAC := Lib.hid hac
  have HPC := Lib.hid hpc
  have HU := Lib.hid (plI_neg hu)
  clear hv hs hn hl he hm hr hin hac hpc hu
  go_enter Try.func26, Try.ntmps26
  go_wp2_with fail
  have hb2 : Below w.heap.size w ((w.alloc (.cells #[.slice A n c, .slice AE m ce, .int .i64 0, .int .i64 gw] 28)).alloc (.cells #[.slice none 0 0, .slice none 0 0, .int .i64 0, .int .i64 0] 28)) := ((Below.refl _ _).alloc (Nat.le_refl _) _).alloc (by simp) _
  refine (HAC.out _ hb2).mono ?_
  rintro en w3 ⟨rfl, hb3⟩
  have hat1 : At w3 w.heap.size [.slice A n c, .slice AE m ce, .int .i64 0, .int .i64 gw] 28 := ((At.made (w := w) (a := #[.slice A n c, .slice AE m ce, .int .i64 0, .int .i64 gw]) rfl rfl).al).below hb3 (by simp; omega)
  have hat2 : At w3 (w.heap.size + 1) [.slice none 0 0, .slice none 0 0, .int .i64 0, .int .i64 0] 28 := (At.made (by simp) rfl).below hb3 (by simp)
  have hb := hb2.trans (hb3.mono (by simp; omega))
  clear hb2 hb3 HAC
  have q0 := hat1.cell 0 rfl
  have q1 := hat1.cell 1 rfl
  have q2 := hat1.cell 2 rfl
  have q3 := hat1.cell 3 rfl
  have HA := Lib.hid (And.intro hat1 (And.intro hat2 hb))
  have hpl := HPC.out u w3 hb
  rw [HU.out] at hpl
  have HC := Lib.hid hpl
  clear hat1 hat2 hb hpl
  go_wp2_with fail
  refine HC.out.mono ?_
  rintro en w4 ⟨rfl, hbx⟩
  obtain ⟨hat1, hat2, hb⟩ := HA.out
  have hat1 := hat1.below hbx hat1.lt
  have hat2 := hat2.below hbx hat2.lt
  have hb := hb.trans (hbx.mono hb.size)
  clear HA HC hbx q0 q1 q2 q3
  have q0 := hat1.cell 0 rfl
  have q1 := hat1.cell 1 rfl
  have q2 := hat1.cell 2 rfl
  have q3 := hat1.cell 3 rfl
  have f0 := hat2.free 0
  have f1 := hat2.free 1
  have f2 := hat2.free 2
  have f3 := hat2.free 3
  have r0 := hat2.cell 0 rfl
  have r1 := hat2.cell 1 rfl
  have r2 := hat2.cell 2 rfl
  have r3 := hat2.cell 3 rfl
  have hat3 : At ((((w4.setCell ⟨w.heap.size + 1, 0, none⟩ (.slice A n c)).setCell ⟨w.heap.size + 1, 1, none⟩ (.slice AE m ce)).setCell ⟨w.heap.size + 1, 2, none⟩ (.int .i64 0)).setCell ⟨w.heap.size + 1, 3, none⟩ (.int .i64 gw)) (w.heap.size + 1) [.slice A n c, .slice AE m ce, .int .i64 0, .int .i64 gw] 28 := (((hat2.put rfl).put rfl).put rfl).put rfl
  have t0 := hat3.cell 0 rfl
  have t1 := hat3.cell 1 rfl
  have t2 := hat3.cell 2 rfl
  have t3 := hat3.cell 3 rfl
  have HB := Lib.hid hb
  clear hat1 hat2 hat3 hb HPC
  go_wp2
  refine bodyPost_ret (v := .tuple #[.agg #[.slice A n c, .slice AE m ce, .int .i64 0, .int .i64 gw], .int .i64 5]) ?_ rfl ⟨rfl, (((HB.out.setCell (by simp) _).setCell (by simp) _).setCell (by simp) _).setCell (by simp) _⟩
  simp only [results]; go_simp
set_option maxHeartbeats 8000000 in
set_option maxRecDepth 100000 in
theorem addaR_nov {gw : Int} (w : World) (A AE : Option Addr) (n c m ce : Nat) (sl : List Int) (es : List (Int × Int × Int)) (e u v : Int) (hv : RdI w A sl) (hs : sl.Pairwise (· < ·)) (hn : sl.length = n) (hl : n ≤ 1000) (he : RdG w AE es) (hm : es.length = m) (hr : m ≤ 1000) (hin : ∀ p ∈ es, p.1 ≠ e) (hu : u ∈ sl) (hvn : v ∉ sl) :
    Calls Try.prog 26 #[gV A n c (.slice AE m ce) gw, .int .i64 e, .int .i64 u, .int .i64 v] w fun en w' => en = .returned (.tuple #[gV A n c (.slice AE m ce) gw, .int .i64 5]) ∧ Below w.heap.size w w' := by
  have hac := fun (W : World) (hW : Below w.heap.size w W) => at_calls (gw := gw) W A AE n c ce es e (he.below hW) (by omega)
  have hpc := fun (x : Int) (W : World) (hW : Below w.heap.size w W) => place_calls (gw := gw) W A AE c m ce sl x (hv.below hW) hs (by omega)
  simp only [atI_no hin, hm] at hac
  simp only [hn] at hpc
  unfold gV at hac hpc ⊢
  have HAC := Lib.hid hac
  have HPC := Lib.hid hpc
  obtain ⟨pu, hpu⟩ : ∃ pu, plI sl u = pu := ⟨_, rfl⟩
  have hpu0 : (0 : Int) ≤ pu := by rw [← hpu, plI_pos (by simpa using hu)]; omega
  have HU := Lib.hid hpu
  have HV := Lib.hid (plI_neg hvn)
  clear hv hs hn hl he hm hr hin hac hpc hu hvn hpu
  go_enter Try.func26, Try.ntmps26
  go_wp2_with fail
  have hb2 : Below w.heap.size w ((w.alloc (.cells #[.slice A n c, .slice AE m ce, .int .i64 0, .int .i64 gw] 28)).alloc (.cells #[.slice none 0 0, .slice none 0 0, .int .i64 0, .int .i64 0] 28)) := ((Below.refl _ _).alloc (Nat.le_refl _) _).alloc (by simp) _
  refine (HAC.out _ hb2).mono ?_
  rintro en w3 ⟨rfl, hb3⟩
  have hat1 : At w3 w.heap.size [.slice A n c, .slice AE m ce, .int .i64 0, .int .i64 gw] 28 := ((At.made (w := w) (a := #[.slice A n c, .slice AE m ce, .int .i64 0, .int .i64 gw]) rfl rfl).al).below hb3 (by simp; omega)
  have hat2 : At w3 (w.heap.size + 1) [.slice none 0 0, .slice none 0 0, .int .i64 0, .int .i64 0] 28 := (At.made (by simp) rfl).below hb3 (by simp)
  have hb := hb2.trans (hb3.mono (by simp; omega))
  clear hb2 hb3 HAC
  have q0 := hat1.cell 0 rfl
  have q1 := hat1.cell 1 rfl
  have q2 := hat1.cell 2 rfl
  have q3 := hat1.cell 3 rfl
  have HA := Lib.hid (And.intro hat1 (And.intro hat2 hb))
  have hpl := HPC.out u w3 hb
  rw [HU.out] at hpl
  have HC := Lib.hid hpl
  clear hat1 hat2 hb hpl
  go_wp2_with fail
  refine HC.out.mono ?_
  rintro en w4 ⟨rfl, hbx⟩
  obtain ⟨hat1, hat2, hb⟩ := HA.out
  have hat1 := hat1.below hbx hat1.lt
  have hat2 := hat2.below hbx hat2.lt
  have hb := hb.trans (hbx.mono hb.size)
  clear HA HC hbx q0 q1 q2 q3
  have q0 := hat1.cell 0 rfl
  have q1 := hat1.cell 1 rfl
  have q2 := hat1.cell 2 rfl
  have q3 := hat1.cell 3 rfl
  have HA := Lib.hid (And.intro hat1 (And.intro hat2 hb))
  have hpl := HPC.out v w4 hb
  rw [HV.out] at hpl
  have HC := Lib.hid hpl
  clear hat1 hat2 hb hpl
  go_wp2_with fail
  refine HC.out.mono ?_
  rintro en w5 ⟨rfl, hbx⟩
  obtain ⟨hat1, hat2, hb⟩ := HA.out
  have hat1 := hat1.below hbx hat1.lt
  have hat2 := hat2.below hbx hat2.lt
  have hb := hb.trans (hbx.mono hb.size)
  clear HA HC hbx q0 q1 q2 q3
  have q0 := hat1.cell 0 rfl
  have q1 := hat1.cell 1 rfl
  have q2 := hat1.cell 2 rfl
  have q3 := hat1.cell 3 rfl
  have f0 := hat2.free 0
  have f1 := hat2.free 1
  have f2 := hat2.free 2
  have f3 := hat2.free 3
  have r0 := hat2.cell 0 rfl
  have r1 := hat2.cell 1 rfl
  have r2 := hat2.cell 2 rfl
  have r3 := hat2.cell 3 rfl
  have hat3 : At ((((w5.setCell ⟨w.heap.size + 1, 0, none⟩ (.slice A n c)).setCell ⟨w.heap.size + 1, 1, none⟩ (.slice AE m ce)).setCell ⟨w.heap.size + 1, 2, none⟩ (.int .i64 0)).setCell ⟨w.heap.size + 1, 3, none⟩ (.int .i64 gw)) (w.heap.size + 1) [.slice A n c, .slice AE m ce, .int .i64 0, .int .i64 gw] 28 := (((hat2.put rfl).put rfl).put rfl).put rfl
  have t0 := hat3.cell 0 rfl
  have t1 := hat3.cell 1 rfl
  have t2 := hat3.cell 2 rfl
  have t3 := hat3.cell 3 rfl
  have HB := Lib.hid hb
  clear hat1 hat2 hat3 hb HPC
  go_wp2
  refine bodyPost_ret (v := .tuple #[.agg #[.slice A n c, .slice AE m ce, .int .i64 0, .int .i64 gw], .int .i64 5]) ?_ rfl ⟨rfl, (((HB.out.setCell (by simp) _).setCell (by simp) _).setCell (by simp) _).setCell (by simp) _⟩
  simp only [results]; go_simp
theorem RdV.of_edg {w : World} {base n c : Nat} {e : TypeId} {A : Option Addr} {es : List (Int × Int × Int)} (h : w.ownsRow base e 4 (.slice A n c) n (edg es)) : RdV w (.slice A n c) n 4 (edg es) := by
  refine ⟨by have := h.1; omega, fun u hu => by
    unfold edg at hu
    obtain ⟨x, _, hx⟩ := List.mem_flatMap.1 hu
    simp only [List.mem_cons, List.not_mem_nil, or_false] at hx
    rcases hx with rfl | rfl | rfl | rfl <;> rfl, ?_⟩
  rcases h.2 with ⟨h1, h2⟩ | ⟨g, cap, cur, h1, _⟩
  · exact .inl ⟨h2 ▸ h1, h2⟩
  · cases h1
    refine .inr ⟨_, _, rfl, fun j u hu => ?_⟩
    have hj := (List.getElem?_eq_some_iff.1 hu).1
    have := (h.cellAt j (by have := h.1; omega)).trans hu
    rw [add_plain]
    simpa using this
theorem RdG.of_own {w : World} {base n c : Nat} {e : TypeId} {A : Option Addr} {es : List (Int × Int × Int)} (h : w.ownsRow base e 4 (.slice A n c) n (edg es)) : RdG w A es := fun j x u v hx => by
  have hj := (List.getElem?_eq_some_iff.1 hx).1
  have hl := h.1
  rw [edg_length] at hl
  rcases h.2 with ⟨h1, h2⟩ | ⟨g, cap, cur, h1, _⟩
  · omega
  · cases h1
    obtain ⟨e1, e2, e3, _⟩ := edg_at es j x u v hx
    exact ⟨g, rfl, (h.cellAt (j * 4) (by omega)).trans e1, (h.cellAt (j * 4 + 1) (by omega)).trans e2, (h.cellAt (j * 4 + 2) (by omega)).trans e3⟩
set_option maxHeartbeats 8000000 in
set_option maxRecDepth 100000 in
theorem addaR_yes {gw : Int} (w : World) (A AE : Option Addr) (n c m ce : Nat) (sl : List Int) (es : List (Int × Int × Int)) (e u v : Int) (hv : RdI w A sl) (hs : sl.Pairwise (· < ·)) (hn : sl.length = n) (hl : n ≤ 1000) (he : w.ownsRow 0 36 4 (.slice AE m ce) m (edg es)) (hm : es.length = m) (hr : m ≤ 1000) (hin : ∀ p ∈ es, p.1 ≠ e) (hu : u ∈ sl) (hvn : v ∈ sl) :
    Calls Try.prog 26 #[gV A n c (.slice AE m ce) gw, .int .i64 e, .int .i64 u, .int .i64 v] w fun en w' => ∃ A' c', en = .returned (.tuple #[gV A n c (.slice A' (m + 1) c') gw, .int .i64 0]) ∧ w'.ownsRow w.heap.size 36 4 (.slice A' (m + 1) c') (m + 1) (edg (es ++ [(e, u, v)])) ∧ Below w.heap.size w w' := by
  obtain ⟨i4, hi4, hz4, hs4, hy4⟩ := info_parts info_edge
  have HEV := Lib.hid (RdV.of_edg he)
  have he := RdG.of_own he
  have hac := fun (W : World) (hW : Below w.heap.size w W) => at_calls (gw := gw) W A AE n c ce es e (he.below hW) (by omega)
  have hpc := fun (x : Int) (W : World) (hW : Below w.heap.size w W) => place_calls (gw := gw) W A AE c m ce sl x (hv.below hW) hs (by omega)
  simp only [atI_no hin, hm] at hac
  simp only [hn] at hpc
  unfold gV at hac hpc ⊢
  have HAC := Lib.hid hac
  have HPC := Lib.hid hpc
  obtain ⟨pu, hpu⟩ : ∃ pu, plI sl u = pu := ⟨_, rfl⟩
  have hpu0 : (0 : Int) ≤ pu := by rw [← hpu, plI_pos (by simpa using hu)]; omega
  obtain ⟨pv, hpv⟩ : ∃ pv, plI sl v = pv := ⟨_, rfl⟩
  have hpv0 : (0 : Int) ≤ pv := by rw [← hpv, plI_pos (by simpa using hvn)]; omega
  have HU := Lib.hid hpu
  have HV := Lib.hid hpv
  clear hv hs hn hl he hm hin hac hpc hu hvn hpu hpv
  go_enter Try.func26, Try.ntmps26
  go_wp2_with fail
  have hb2 : Below w.heap.size w ((w.alloc (.cells #[.slice A n c, .slice AE m ce, .int .i64 0, .int .i64 gw] 28)).alloc (.cells #[.slice none 0 0, .slice none 0 0, .int .i64 0, .int .i64 0] 28)) := ((Below.refl _ _).alloc (Nat.le_refl _) _).alloc (by simp) _
  refine (HAC.out _ hb2).mono ?_
  rintro en w3 ⟨rfl, hb3⟩
  have hat1 : At w3 w.heap.size [.slice A n c, .slice AE m ce, .int .i64 0, .int .i64 gw] 28 := ((At.made (w := w) (a := #[.slice A n c, .slice AE m ce, .int .i64 0, .int .i64 gw]) rfl rfl).al).below hb3 (by simp; omega)
  have hat2 : At w3 (w.heap.size + 1) [.slice none 0 0, .slice none 0 0, .int .i64 0, .int .i64 0] 28 := (At.made (by simp) rfl).below hb3 (by simp)
  have hb := hb2.trans (hb3.mono (by simp; omega))
  clear hb2 hb3 HAC
  have q0 := hat1.cell 0 rfl
  have q1 := hat1.cell 1 rfl
  have q2 := hat1.cell 2 rfl
  have q3 := hat1.cell 3 rfl
  have HA := Lib.hid (And.intro hat1 (And.intro hat2 hb))
  have hpl := HPC.out u w3 hb
  rw [HU.out] at hpl
  have HC := Lib.hid hpl
  clear hat1 hat2 hb hpl
  go_wp2_with fail
  refine HC.out.mono ?_
  rintro en w4 ⟨rfl, hbx⟩
  obtain ⟨hat1, hat2, hb⟩ := HA.out
  have hat1 := hat1.below hbx hat1.lt
  have hat2 := hat2.below hbx hat2.lt
  have hb := hb.trans (hbx.mono hb.size)
  clear HA HC hbx q0 q1 q2 q3
  have q0 := hat1.cell 0 rfl
  have q1 := hat1.cell 1 rfl
  have q2 := hat1.cell 2 rfl
  have q3 := hat1.cell 3 rfl
  have HA := Lib.hid (And.intro hat1 (And.intro hat2 hb))
  have hpl := HPC.out v w4 hb
  rw [HV.out] at hpl
  have HC := Lib.hid hpl
  clear hat1 hat2 hb hpl
  go_wp2_with fail
  refine HC.out.mono ?_
  rintro en w5 ⟨rfl, hbx⟩
  obtain ⟨hat1, hat2, hb⟩ := HA.out
  have hat1 := hat1.below hbx hat1.lt
  have hat2 := hat2.below hbx hat2.lt
  have hb := hb.trans (hbx.mono hb.size)
  clear HA HC hbx q0 q1 q2 q3
  have HE5 := Lib.hid (HEV.out.below hb)
  have q1 := (hat1.al (o := .cells #[] 36)).cell 1 rfl
  have HA := Lib.hid (And.intro hat1 (And.intro hat2 hb))
  clear hat1 hat2 hb HPC
  go_wp2_with ((at_builtin; first | (refine wpList_append_any rfl (.tmp 26) (.tmp 28) 26 rfl w5.heap.size 36 i4 (.agg #[.int .i64 0, .int .i64 0, .int .i64 0, .int .u32 0]) 4 32 Try.underlying26 hi4 hz4 hs4 hy4 rfl (by omega) _ 0 [] rfl (own_made rfl (Nat.le_refl _)) _ rfl m (edg es) (HE5.out.below ((Below.refl _ _).alloc (Nat.le_refl _) (.cells #[] 36))) (by unfold maxLen; omega) (by omega) (by simp) ?_; intro v3 w6 ho hg hn; rw [Nat.zero_add, List.nil_append] at ho; have hb4 : Below w5.heap.size w5 w6 := ((Below.refl w5.heap.size w5).alloc (Nat.le_refl _) (.cells #[] 36)).grown hg (by simp) (fun k hk => by cases hk; exact Nat.le_refl _); have HO := Lib.hid (And.intro ho (And.intro hb4 hb4.size)); clear ho hg hn hb4) | (refine wpList_append_any rfl (.tmp 29) (.tmp 34) 26 rfl w5.heap.size 36 i4 (.agg #[.int .i64 0, .int .i64 0, .int .i64 0, .int .u32 0]) 4 32 Try.underlying26 hi4 hz4 hs4 hy4 rfl (by omega) _ m (edg es) rfl (HO.out.1.alloc (.cells #[.int .i64 e, .int .i64 u, .int .i64 v, .int .u32 0] 36)) _ rfl 1 [.int .i64 e, .int .i64 u, .int .i64 v, .int .u32 0] (RdV.lit w6 #[.int .i64 e, .int .i64 u, .int .i64 v, .int .u32 0] 36 1 4 1 rfl (by simp [Value.oneCell'])) (by unfold maxLen; omega) (by omega) (by have := HO.out.2.2; simp; omega) ?_; intro v5 w7 ho hg hn; have hb5 := (HO.out.2.1.alloc HO.out.2.2 (.cells #[.int .i64 e, .int .i64 u, .int .i64 v, .int .u32 0] 36)).grown hg (by have := HO.out.2.2; simp; omega) (fun k hk => (HO.out.1.lt k hk).1); obtain ⟨A6, c6, rfl⟩ := Lw.own_slice ho; have h1 := HA.out.1.below hb5 HA.out.1.lt; have h2 := HA.out.2.1.below hb5 HA.out.2.1.lt; have p1 := h1.cell 1 rfl; have fx1 := h1.free 1; have h1s : At (w7.setCell ⟨w.heap.size, 1, none⟩ (.slice A6 (m + 1) c6)) w.heap.size [.slice A n c, .slice A6 (m + 1) c6, .int .i64 0, .int .i64 gw] 28 := h1.put rfl; have h2s : At (w7.setCell ⟨w.heap.size, 1, none⟩ (.slice A6 (m + 1) c6)) (w.heap.size + 1) [.slice none 0 0, .slice none 0 0, .int .i64 0, .int .i64 0] 28 := h2.off (by omega); have q0 := h1s.cell 0 rfl; have q1 := h1s.cell 1 rfl; have q2 := h1s.cell 2 rfl; have q3 := h1s.cell 3 rfl; have f0 := h2s.free 0; have f1 := h2s.free 1; have f2 := h2s.free 2; have f3 := h2s.free 3; have r0 := h2s.cell 0 rfl; have r1 := h2s.cell 1 rfl; have r2 := h2s.cell 2 rfl; have r3 := h2s.cell 3 rfl; have h3s : At (((((w7.setCell ⟨w.heap.size, 1, none⟩ (.slice A6 (m + 1) c6)).setCell ⟨w.heap.size + 1, 0, none⟩ (.slice A n c)).setCell ⟨w.heap.size + 1, 1, none⟩ (.slice A6 (m + 1) c6)).setCell ⟨w.heap.size + 1, 2, none⟩ (.int .i64 0)).setCell ⟨w.heap.size + 1, 3, none⟩ (.int .i64 gw)) (w.heap.size + 1) [.slice A n c, .slice A6 (m + 1) c6, .int .i64 0, .int .i64 gw] 28 := (((h2s.put rfl).put rfl).put rfl).put rfl; have t0 := h3s.cell 0 rfl; have t1 := h3s.cell 1 rfl; have t2 := h3s.cell 2 rfl; have t3 := h3s.cell 3 rfl; have HO2 := Lib.hid (And.intro ho (And.intro hb5 (And.intro h1 h2))); clear ho hg hn hb5 h1 h2 h1s h2s h3s)))
  refine bodyPost_ret (v := .tuple #[.agg #[.slice A n c, .slice A6 (m + 1) c6, .int .i64 0, .int .i64 gw], .int .i64 0]) ?_ rfl ⟨A6, c6, rfl, ?_, ?_⟩
  · simp only [results]; go_simp
  · obtain ⟨ho, hb5, h1, h2⟩ := HO2.out
    have ho := own_mono (B' := w.heap.size) ho HA.out.2.2.size
    rw [edg_append]
    have g1 := fun (k : Nat) (u : Value) (hk : ∃ cs, At w7 k cs 28) => fun {W : World} {xs : List Value} (hW : W.ownsRow w.heap.size 36 4 (.slice A6 (m + 1) c6) (m + 1) xs) (i : Nat) => ownsRow_setCell_other hW (a := ⟨k, i, none⟩) (fun e => by
      obtain ⟨cs, hk⟩ := hk
      exact own_off ho hk (by decide) e.symm) u
    exact g1 _ _ ⟨_, h2⟩ (g1 _ _ ⟨_, h2⟩ (g1 _ _ ⟨_, h2⟩ (g1 _ _ ⟨_, h2⟩ (g1 _ _ ⟨_, h1⟩ ho 1) 0) 1) 2) 3
  · obtain ⟨ho, hb5, h1, h2⟩ := HO2.out
    exact (((((HA.out.2.2.trans (hb5.mono HA.out.2.2.size)).setCell (by simp) _).setCell (by simp) _).setCell (by simp) _).setCell (by simp) _).setCell (by simp) _
end Go.Proofs.Ythomnpgpbhpojaa.Cd
