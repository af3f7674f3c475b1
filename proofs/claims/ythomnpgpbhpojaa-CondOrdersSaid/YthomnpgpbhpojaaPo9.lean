/- parts.Parts[int]: New, Drop. -/
import Derived.Test.YthomnpgpbhpojaaPo5
import Derived.Test.YthomnpgpbhpojaaPo8
namespace Go.Proofs.Ythomnpgpbhpojaa.Pt
open Go Go.RowKit Go.Proofs.Ythomnpgpbhpojaa.Mem Go.Proofs.Ythomnpgpbhpojaa.Sl Go.Proofs.Ythomnpgpbhpojaa.Lw Go.Proofs.YthomnpgpbhpojaaW.PrintWords Go.Proofs.YthomnpgpbhpojaaW.PrintLast
attribute [local go_sem ↓] Go.wp_at_zero Go.wp_at_succ
set_option linter.unusedSimpArgs false
set_option linter.unusedVariables false

set_option maxHeartbeats 4000000 in
theorem is_calls (w : World) (gk : Nat) (x k : Int) (hc : w.cell? ⟨gk, 0, none⟩ = some (.int .i64 k)) :
    Calls Try.prog 63 #[.int .i64 x, .pointer (some ⟨gk, 0, none⟩)] w fun e w' => e = .returned (.bool (x == k)) ∧ w' = w := by
  go_enter Try.func63, Try.ntmps63
  go_wp2
  go_ret
  exact ⟨rfl, rfl⟩
set_option maxHeartbeats 4000000 in
theorem index_one (w : World) (g gk c : Nat) (k : Int) (hc : w.cell? ⟨gk, 0, none⟩ = some (.int .i64 k)) (hg : w.cell? ⟨g, 0, none⟩ = some (.int .i64 k)) :
    Calls Try.prog 87 #[.slice (some ⟨g, 0, none⟩) 1 c, .func (.func 63) #[] #[.pointer (some ⟨gk, 0, none⟩)]] w fun e w' => e = .returned (.int .i64 0) ∧ w' = w := by
  have HI := Lib.hid (is_calls w gk k k hc)
  go_enter Try.func87, Try.ntmps87
  go_wp2_with fail
  go_loopg [8] 2 (fun kq v8 w' => v8 = .int .i64 0 ∧ w' = w ∧ kq = 2)
  case atStart => exact ⟨rfl, rfl, rfl⟩
  case round =>
    obtain ⟨rfl, rfl, hk⟩ := hrel
    go_wp2_with fail
    refine HI.out.mono ?_
    rintro e w' ⟨rfl, rfl⟩
    go_wp2
    go_ret
    exact ⟨rfl, rfl⟩
theorem run_clear1 (w : World) (g c : Nat) (ty : TypeId) (k : Int) (hg : w.cell? ⟨g, 0, none⟩ = some (.int .i64 k)) (hf : w.frozen? ⟨g, 0, none⟩ = false) :
    (Builtin.clear_ #[25] ty #[.slice (some ⟨g, 0, none⟩) 1 c]).run Try.prog w = .ok (.tuple #[]) (w.setCell ⟨g, 0, none⟩ (.int .i64 0)) := by
  have hv : ∀ w : World, (zeroValue 3).run Try.prog w = .ok (.int .i64 0) w := fun w => by kernel_rfl
  have hzc : (Builtin.zeroCells (Value.int .i64 0).cells 1).toList = [.int .i64 0] := by kernel_rfl
  have hst := run_storeCells_cells (P := Try.prog) g 0 [.int .i64 0] 0 w (fun j hj => by
    have : j = 0 := by simpa using hj
    subst this
    rw [hg]
    rfl) (fun j hj => by
    have : j = 0 := by simpa using hj
    subst this
    exact hf) (by simp [Value.oneCell'])
  simp only [Nat.add_zero] at hst
  simp [Builtin.clear_, run_underlying Try.underlying25, hv, hzc, hst, World.setCells]

set_option maxHeartbeats 4000000 in
theorem delete_one (w : World) (g gk c : Nat) (k : Int) (hc : w.cell? ⟨gk, 0, none⟩ = some (.int .i64 k)) (hg : w.cell? ⟨g, 0, none⟩ = some (.int .i64 k)) (hf : w.frozen? ⟨g, 0, none⟩ = false) (h1 : 1 ≤ c) :
    Calls Try.prog 62 #[.slice (some ⟨g, 0, none⟩) 1 c, .func (.func 63) #[] #[.pointer (some ⟨gk, 0, none⟩)]] w fun e w' => e = .returned (.slice (some ⟨g, 0, none⟩) 0 c) ∧ w' = w.setCell ⟨g, 0, none⟩ (.int .i64 0) := by
  have HI := Lib.hid (index_one w g gk c k hc hg)
  have hcl := run_clear1 w g c 0 k hg hf
  have c1 : (1 : Int) ≤ (c : Int) := by omega
  have c0 : (0 : Int) ≤ (c : Int) := by omega
  go_enter Try.func62, Try.ntmps62
  go_wp2_with fail
  refine HI.out.mono ?_
  rintro e w' ⟨rfl, rfl⟩
  go_wp2_with fail
  go_loopg [5, 6] 2 (fun kq v5 v6 wx => v5 = .int .i64 0 ∧ v6 = .int .i64 1 ∧ wx = w' ∧ kq = 2)
  case atStart => exact ⟨rfl, rfl, rfl, rfl⟩
  case round =>
    obtain ⟨rfl, rfl, rfl, hk⟩ := hrel
    go_wp2
    go_ret
    exact ⟨rfl, rfl⟩

theorem PtR.empty {w : World} {row : Nat → List Int} {val : Nat → Value} {p : Nat → Prop} (hl : ∀ k, p k → k < w.heap.size) : PtR w (fun _ => none) row val p := by
  refine ⟨fun v b h => ?_, fun v b h => ?_, fun v b h => ?_, fun v v' b b' k h => ?_, hl⟩ <;> cases h
theorem run_mk (w : World) : (Instr.makeMap 79 none).run Try.prog w = .ok (.map (some w.heap.size)) (w.alloc (.map #[] 0)) := by
  simp [Instr.makeMap, run_underlying Try.underlying79]
theorem new_calls (w : World) : Calls Try.prog 19 #[] w fun e w' => ∃ gp gm, e = .returned (.pointer (some ⟨gp, 0, none⟩)) ∧ w.heap.size ≤ gp ∧ w.heap.size ≤ gm ∧ PtS w' gp gm (fun _ => none) (fun _ => []) (fun _ => .nilFunc) (fun k => k = gm) ∧ Below w.heap.size w w' := by
  have hmm := run_mk w
  go_enter Try.func19, Try.ntmps19
  go_wp2
  go_ret
  refine ⟨w.heap.size + 1, w.heap.size, rfl, by omega, Nat.le_refl _, ⟨At.made (by simp) rfl, ?_, rfl, by omega, PtR.empty (fun k hk => by subst hk; simp; omega)⟩, ((Below.refl _ _).alloc (Nat.le_refl _) _).alloc (by simp) _⟩
  exact (MQ.new w).al

theorem own_capS {w : World} {B s n cap g : Nat} {T : TypeId} {xs : List Value} (h : w.ownsRow B T s (.slice (some ⟨g, 0, none⟩) n cap) n xs) : n ≤ cap := by
  rcases h.2 with ⟨h', _⟩ | ⟨g', cap', cur, h', _, _, hn, _⟩
  · cases h'
  · cases h'
    exact hn
theorem ptf_del {cls : Int → Option Nat} {k : Int} : updV (ptf cls) k none = ptf (fun x => if x = k then none else cls x) := by
  funext x
  unfold updV ptf
  dsimp only
  by_cases h : x = k
  · rw [if_pos h, if_pos h]; rfl
  · rw [if_neg h, if_neg h]
theorem PtR.frame {w w' : World} {cls : Int → Option Nat} {row : Nat → List Int} {val : Nat → Value} {pb : Nat → Prop} {p : Nat → Prop} (h : PtR w cls row val pb) (hk : Kpt p w w') (hp : ∀ v b, cls v = some b → ¬ p b ∧ ∀ k, (val b).ownBlock = some k → ¬ p k) : PtR w' cls row val pb :=
  ⟨fun v b hv => by
    obtain ⟨a1, a2, a3, a4⟩ := h.hb v b hv
    obtain ⟨p1, p2⟩ := hp v b hv
    refine ⟨a1.kept hk p1, ⟨a2.1, ?_⟩, a3, a4⟩
    rcases a2.2 with h0 | ⟨g, cap, cur, e1, e2, e3, r⟩
    · exact .inl h0
    · exact .inr ⟨g, cap, cur, e1, e2, (hk.block g (lt_of_block e3) (p2 g (by rw [e1]; rfl))).trans e3, r⟩, h.mem, h.nd, h.ne, fun k hk' => Nat.lt_of_lt_of_le (h.lt k hk') hk.size⟩
section
variable {w w' : World} {gp gm : Nat} {cls : Int → Option Nat} {row : Nat → List Int} {val : Nat → Value} {pb : Nat → Prop}
theorem PtR.upd_none (h : PtR w cls row val pb) {k : Int} {b0 : Nat} (hk : cls k = some b0) (hr : row b0 = [k]) : PtR w (fun x => if x = k then none else cls x) row val pb := by
  have h1 := h.less (b0 := b0) [k] (fun x => by rw [← hr]; exact h.mem k b0 hk x)
  rw [show (fun x => if x = k then none else cls x) = fun x => if x ∈ [k] then none else cls x from by
    funext x
    by_cases e : x = k
    · rw [if_pos e, if_pos (by simp [e])]
    · rw [if_neg e, if_neg (by simp [e])]]
  exact h1

set_option maxHeartbeats 4000000 in
theorem drop_no (h : PtS w gp gm cls row val pb) (k : Int) (hk : cls k = none) :
    Calls Try.prog 51 #[.pointer (some ⟨gp, 0, none⟩), .int .i64 k] w fun e w' => e = .returned (.bool false) ∧ Below w.heap.size w w' := by
  have hb1 : Below w.heap.size w (w.alloc (.cells #[.int .i64 k] 3)) := (Below.refl _ _).alloc (Nat.le_refl _) _
  have h1 := h.below hb1
  have HP := Lib.hid h1
  have hat : At (w.alloc (.cells #[.int .i64 k] 3)) w.heap.size [.int .i64 k] 3 := At.made rfl rfl
  have HA := Lib.hid (And.intro hat hb1)
  clear h h1 hb1 hat
  go_enter Try.func51, Try.ntmps51
  go_upto_region 1 with (fail)
  refine gen_world (fun W => PtS W gp gm cls row val pb ∧ At W w.heap.size [.int .i64 k] 3 ∧ Below w.heap.size w W) ⟨HP.out, HA.out⟩ ?_
  obtain ⟨gk, hgk⟩ : ∃ gk, w.heap.size = gk := ⟨_, rfl⟩
  rw [hgk]
  rintro wr ⟨hP, hat, hb⟩
  rw [← hgk] at hb
  clear HP HA hgk
  have q0 := hP.hp.cell 0 rfl
  have qk := hat.cell 0 rfl
  have lk := (hP.below (w' := wr.drew) (Below.refl _ _).drew).look k
  rw [ptf_none hk, Option.getD_none] at lk
  have HB := Lib.hid hb
  clear hP hat hb
  refine start_ (n := 7) (S := fun w' => w'.cell? ⟨gp, 0, none⟩ = some (.map (some gm)) ∧ w'.cell? ⟨gk, 0, none⟩ = some (.int .i64 k) ∧ (Instr.lookup 79 (.map (some gm)) (.int .i64 k) false).run Try.prog w' = .ok (.pointer none) w') (ds := []) (bA 7 0) (by kernel_rfl) rfl rfl ⟨q0, qk, lk⟩ (fun hHeld => ?_)
  refine pk_ 0 6 (bA 7 1) ?_
  refine pk_ 1 7 (bA 7 3) ?_
  refine pk_ 2 8 (bA 7 7) ?_
  refine tk_ 3 9 (bA 7 15) hHeld (hv := by rintro w' ⟨s0, s1, s2⟩; go_simp; with_reducible rfl) (h := ?_)
  refine tk_ 4 10 (bA 7 31) hHeld (hv := by rintro w' ⟨s0, s1, s2⟩; go_simp; with_reducible rfl) (h := ?_)
  refine tk_ 5 11 (bA 7 63) hHeld (hv := by rintro w' ⟨s0, s1, s2⟩; go_simp; with_reducible rfl) (h := ?_)
  refine pk_ 6 5 (bA 7 127) ?_
  refine done_ (by kernel_rfl) ?_
  clear hHeld
  go_wp2
  go_ret
  exact ⟨rfl, HB.out.drew⟩
set_option maxHeartbeats 8000000 in
set_option maxRecDepth 100000 in
theorem drop_calls (h : PtS w gp gm cls row val pb) (k : Int) {b0 : Nat} (hk : cls k = some b0) (hr : row b0 = [k]) :
    Calls Try.prog 51 #[.pointer (some ⟨gp, 0, none⟩), .int .i64 k] w fun e w' => e = .returned (.bool true) ∧ Kpt pb w w' ∧ PtS w' gp gm (fun x => if x = k then none else cls x) row val (ext pb w w') := by
  have hb1 : Below w.heap.size w (w.alloc (.cells #[.int .i64 k] 3)) := (Below.refl _ _).alloc (Nat.le_refl _) _
  have hat : At (w.alloc (.cells #[.int .i64 k] 3)) w.heap.size [.int .i64 k] 3 := At.made rfl rfl
  have H0 := Lib.hid (And.intro (h.below hb1) (And.intro hat hb1))
  have HP := Lib.hid h
  clear h hb1 hat
  go_enter Try.func51, Try.ntmps51
  go_upto_region 1 with (fail)
  refine gen_world (fun W => PtS W gp gm cls row val pb ∧ At W w.heap.size [.int .i64 k] 3 ∧ Below w.heap.size w W) H0.out ?_
  obtain ⟨gk, hgk⟩ : ∃ gk, w.heap.size = gk := ⟨_, rfl⟩
  have HGK := Lib.hid hgk
  rw [hgk]
  rintro wr ⟨hP, hat, hb⟩
  rw [← hgk] at hb
  clear H0 hgk
  have q0 := hP.hp.cell 0 rfl
  have qk := hat.cell 0 rfl
  have lk := (hP.below (w' := wr.drew) (Below.refl _ _).drew).look k
  rw [ptf_some hk, Option.getD_some] at lk
  have HB := Lib.hid (And.intro hP (And.intro hat hb))
  clear hP hat hb
  refine start_ (n := 7) (S := fun w' => w'.cell? ⟨gp, 0, none⟩ = some (.map (some gm)) ∧ w'.cell? ⟨gk, 0, none⟩ = some (.int .i64 k) ∧ (Instr.lookup 79 (.map (some gm)) (.int .i64 k) false).run Try.prog w' = .ok (.pointer (some ⟨b0, 0, none⟩)) w') (ds := []) (bA 7 0) (by kernel_rfl) rfl rfl ⟨q0, qk, lk⟩ (fun hHeld => ?_)
  refine pk_ 0 6 (bA 7 1) ?_
  refine pk_ 1 7 (bA 7 3) ?_
  refine pk_ 2 8 (bA 7 7) ?_
  refine tk_ 3 9 (bA 7 15) hHeld (hv := by rintro w' ⟨s0, s1, s2⟩; go_simp; with_reducible rfl) (h := ?_)
  refine tk_ 4 10 (bA 7 31) hHeld (hv := by rintro w' ⟨s0, s1, s2⟩; go_simp; with_reducible rfl) (h := ?_)
  refine tk_ 5 11 (bA 7 63) hHeld (hv := by rintro w' ⟨s0, s1, s2⟩; go_simp; with_reducible rfl) (h := ?_)
  refine pk_ 6 5 (bA 7 127) ?_
  refine done_ (by kernel_rfl) ?_
  clear hHeld
  refine gen_then (fun W => PtS W gp gm cls row val pb ∧ At W gk [.int .i64 k] 3 ∧ Below w.heap.size w W) ⟨HB.out.1.below (Below.refl _ _).drew, HB.out.2.1, HB.out.2.2.drew⟩ ?_
  clear q0 qk lk HB wr
  rintro wr ⟨hP, hat, hb⟩
  obtain ⟨a1, a2, a3, a4⟩ := hP.r.hb k b0 hk
  obtain ⟨g, c, hval, _, _⟩ := a2.form (hP.r.pos hk)
  rw [hval, hr] at a1 a2
  have c0 := a1.cell 0 rfl
  have f0 := a1.free 0
  have cg := (a2.cellAt 0 (by simp)).trans (show (ints [k])[0]? = some (.int .i64 k) from rfl)
  have fg := a2.frozenAt 0
  have hcap : 1 ≤ c := own_capS a2
  have qk := hat.cell 0 rfl
  have HD := Lib.hid (delete_one wr g gk c k qk cg fg hcap)
  have hgm : g ≠ gm := by
    obtain ⟨cs, hg⟩ := Mem.own_at a2
    exact hP.hm.ne hg
  have hpg : pb g := a4 g (by rw [hval]; rfl)
  have hgkn : ¬ pb gk := fun hh => by
    have := HP.out.r.lt gk hh
    have := HGK.out
    omega
  have hgkm : gk ≠ gm := hP.hm.ne hat
  have hgb : g ≠ b0 := by
    obtain ⟨cs, hg⟩ := Mem.own_at a2
    exact hg.ne a1 (by decide)
  have H1 := Lib.hid (And.intro hP (And.intro hat (And.intro hb (And.intro a1 (And.intro hpg (And.intro a3 (And.intro hgkn (And.intro hgm (And.intro hgb hgkm)))))))))
  have hb0m : b0 ≠ gm := hP.hm.ne a1
  clear hP hat hb a1 a2 a3 a4 hval cg fg hcap qk hgm hpg hgkn hgb hgkm
  go_wp2_with fail
  refine HD.out.mono ?_
  clear HD
  rintro e w1 ⟨rfl, rfl⟩
  obtain ⟨hP, hat, hb, a1, hpg, hpb, hgkn, hgm, hgb, hgkm⟩ := H1.out
  have hgpg : gp ≠ g := fun e => hP.np (e ▸ hpg)
  have hgpb : gp ≠ b0 := fun e => hP.np (e ▸ hpb)
  have hkg : gk ≠ g := fun e => hgkn (e ▸ hpg)
  have hkb : gk ≠ b0 := fun e => hgkn (e ▸ hpb)
  have a1' := a1.off (i := 0) (u := .int .i64 0) hgb.symm
  have c0 := a1'.cell 0 rfl
  have f0 := a1'.free 0
  have h2p := (hP.hp.off (i := 0) (u := .int .i64 0) hgpg).off (i := 0) (u := .slice (some ⟨g, 0, none⟩) 0 c) hgpb
  have h2k := (hat.off (i := 0) (u := .int .i64 0) hkg).off (i := 0) (u := .slice (some ⟨g, 0, none⟩) 0 c) hkb
  have h2m := (hP.hm.off (i := 0) (u := .int .i64 0) hgm).off (i := 0) (u := .slice (some ⟨g, 0, none⟩) 0 c) hb0m
  have hkpt : Kpt (fun x => x = g ∨ x = b0) wr ((wr.setCell ⟨g, 0, none⟩ (.int .i64 0)).setCell ⟨b0, 0, none⟩ (.slice (some ⟨g, 0, none⟩) 0 c)) := ((Kpt.refl _ wr).set (fun _ => .inl rfl) _).set (fun _ => .inr rfl) _
  obtain ⟨o, hdel, hm3⟩ := MQ.delete (P := Try.prog) (T := 79) (show MQ ((wr.setCell ⟨g, 0, none⟩ (.int .i64 0)).setCell ⟨b0, 0, none⟩ (.slice (some ⟨g, 0, none⟩) 0 c)).drew gm (ptf cls) from h2m) Try.underlying79 Try.underlying3 k 0 3
  rw [ptf_del] at hm3
  have HM := Lib.hid hm3
  have HK := Lib.hid hkpt
  have H2 := Lib.hid (And.intro h2p h2k)
  clear hP hat hb a1 hpg hpb hgkn hgm hgb hgkm hgpg hgpb hkg hkb a1' h2p h2k h2m hkpt hm3
  go_upto_region 5 with (fail)
  have q0 := H2.out.1.cell 0 rfl
  have qk := H2.out.2.cell 0 rfl
  refine start_ (n := 6) (S := fun w' => w'.cell? ⟨gp, 0, none⟩ = some (.map (some gm)) ∧ w'.cell? ⟨gk, 0, none⟩ = some (.int .i64 k)) (ds := [5]) (bA 6 0) (by kernel_rfl) rfl rfl ⟨q0, qk⟩ (fun hHeld => ?_)
  refine pk_ 0 21 (bA 6 1) ?_
  refine pk_ 1 22 (bA 6 3) ?_
  refine pk_ 2 23 (bA 6 7) ?_
  refine tk_ 3 24 (bA 6 15) hHeld (hv := by rintro w' ⟨s0, s1⟩; go_simp; with_reducible rfl) (h := ?_)
  refine tk_ 4 25 (bA 6 31) hHeld (hv := by rintro w' ⟨s0, s1⟩; go_simp; with_reducible rfl) (h := ?_)
  refine last_ (i := 5) (N := none) (bA 6 63) rfl rfl (by kernel_rfl) (by decide) (fun K hK => ?_)
  refine value_ (w1 := ?_) (v := ?_) (by rfl) rfl ?_ ?_
  rotate_left 2
  · go_simp
    constructor
    · rfl
    · rfl
  refine hK.out _ _ ?_; clear hK K
  refine done_ (by kernel_rfl) ?_
  clear hHeld
  refine gen_then (fun W => Kpt pb w W ∧ PtS W gp gm (fun x => if x = k then none else cls x) row val (ext pb w W)) ?_ ?_
  · obtain ⟨hP, hat, hb, a1, hpg, hpb, hgkn, hgm, hgb, hgkm⟩ := H1.out
    have hk2 : Kpt pb wr (putObj ((wr.setCell ⟨g, 0, none⟩ (.int .i64 0)).setCell ⟨b0, 0, none⟩ (.slice (some ⟨g, 0, none⟩) 0 c)).drew gm o) := kpt_put ((HK.out.mono (p' := pb) (by rintro k _ (rfl | rfl); exact hpg; exact hpb)).drew) (fun _ => hP.pm) o
    have hk3 : Kpt pb w (putObj ((wr.setCell ⟨g, 0, none⟩ (.int .i64 0)).setCell ⟨b0, 0, none⟩ (.slice (some ⟨g, 0, none⟩) 0 c)).drew gm o) := (Kpt.of_below (p := pb) hb).trans hk2
    have hr4 : PtR ((wr.setCell ⟨g, 0, none⟩ (.int .i64 0)).setCell ⟨b0, 0, none⟩ (.slice (some ⟨g, 0, none⟩) 0 c)).drew (fun x => if x = k then none else cls x) row val pb := by
      refine (hP.r.upd_none hk hr).frame HK.out.drew (fun v b hv => ?_)
      by_cases e : v = k
      · rw [if_pos e] at hv; cases hv
      · rw [if_neg e] at hv
        obtain ⟨c1, c2, _, _⟩ := hP.r.hb v b hv
        have hbb : b ≠ b0 := by
          rintro rfl
          have := (hP.r.mem v b hv v).2 hv
          rw [hr] at this
          exact e (by simpa using this)
        have hvg : (val b0).ownBlock = some g := by
          have := a1.symm.trans (hP.r.hb k b0 hk).1
          simp only [Option.some.injEq, Obj.cells.injEq] at this
          have h5 : (Value.slice (some ⟨g, 0, none⟩) [k].length c) = val b0 := by simpa using this.1
          rw [← h5]
          rfl
        refine ⟨?_, fun kk hkk => ?_⟩
        · rintro (rfl | rfl)
          · obtain ⟨cs, hg⟩ := Mem.own_at (show wr.ownsRow 0 3 1 (.slice (some ⟨b, 0, none⟩) 1 c) 1 (ints [k]) from by
              have h5 := (hP.r.hb k b0 hk).2.1
              have h6 := a1.symm.trans (hP.r.hb k b0 hk).1
              simp only [Option.some.injEq, Obj.cells.injEq] at h6
              have h7 : (Value.slice (some ⟨b, 0, none⟩) [k].length c) = val b0 := by simpa using h6.1
              rw [← h7, hr] at h5
              exact h5)
            exact (hg.ne c1 (by decide)) rfl
          · exact hbb rfl
        · rintro (rfl | rfl)
          · exact hP.r.ne v k b b0 kk hv hk hbb hkk hvg
          · obtain ⟨g', c', hval', _, _⟩ := c2.form (hP.r.pos hv)
            rw [hval'] at hkk c2
            cases hkk
            obtain ⟨cs, hg⟩ := Mem.own_at c2
            exact (hg.ne a1 (by decide)) rfl
    have hr5 := hr4.kept (p := (· = gm)) (kpt_put (Kpt.refl (· = gm) _) (fun _ => rfl) o) (map_no (show MQ ((wr.setCell ⟨g, 0, none⟩ (.int .i64 0)).setCell ⟨b0, 0, none⟩ (.slice (some ⟨g, 0, none⟩) 0 c)).drew gm (ptf cls) from (hP.hm.off (i := 0) (u := .int .i64 0) hgm).off (i := 0) (u := .slice (some ⟨g, 0, none⟩) 0 c) hb0m))
    have hsz := hk3.size
    refine ⟨hk3, H2.out.1.drew.putObj hP.gmp, HM.out, .inl hP.pm, ?_, hr5.mono (fun k hk => .inl hk) (fun kk hkk => ?_)⟩
    · rintro (hh | ⟨hh, _⟩)
      · exact hP.np hh
      · have := HP.out.hp.lt
        omega
    · rcases hkk with hkk | ⟨_, hkk⟩
      · exact hr5.lt kk hkk
      · exact hkk
  clear q0 qk H1 H2 HM HK hdel c0 f0
  intro W hW
  have HW := Lib.hid hW
  clear hW
  go_wp2
  go_ret
  exact ⟨rfl, HW.out⟩
end
end Go.Proofs.Ythomnpgpbhpojaa.Pt

/- parts.Parts[int]: Join. -/
namespace Go.Proofs.Ythomnpgpbhpojaa.Pt
open Go Go.RowKit Go.Proofs.Ythomnpgpbhpojaa.Mem Go.Proofs.Ythomnpgpbhpojaa.Sl Go.Proofs.Ythomnpgpbhpojaa.Lw Go.Proofs.YthomnpgpbhpojaaW.PrintWords Go.Proofs.YthomnpgpbhpojaaW.PrintLast
attribute [local go_sem ↓] Go.wp_at_zero Go.wp_at_succ
set_option linter.unusedSimpArgs false
set_option linter.unusedVariables false

def jcls (cls : Int → Option Nat) (bl bm : Nat) : Int → Option Nat := fun x => if cls x = some bm then some bl else cls x
def jmap (cls : Int → Option Nat) (bl : Nat) (l : List Int) : Int → Option Value := fun x => if x ∈ l then some (.pointer (some ⟨bl, 0, none⟩)) else ptf cls x
theorem jmap_zero (cls : Int → Option Nat) (bl : Nat) : jmap cls bl [] = ptf cls := by funext x; simp [jmap]
theorem jmap_step (cls : Int → Option Nat) (bl : Nat) (l : List Int) (x : Int) : updV (jmap cls bl l) x (some (.pointer (some ⟨bl, 0, none⟩))) = jmap cls bl (l ++ [x]) := by
  funext y
  unfold updV jmap
  by_cases e : y = x
  · rw [if_pos e, if_pos (by simp [e])]
  · rw [if_neg e]
    by_cases e2 : y ∈ l
    · rw [if_pos e2, if_pos (by simp [e2])]
    · rw [if_neg e2, if_neg (by simp [e, e2])]
theorem jmap_full (cls : Int → Option Nat) (bl bm : Nat) (l : List Int) (hl : ∀ x, x ∈ l ↔ cls x = some bm) : jmap cls bl l = ptf (jcls cls bl bm) := by
  funext x
  unfold jmap ptf jcls
  by_cases e : x ∈ l
  · rw [if_pos e, if_pos ((hl x).1 e)]; rfl
  · rw [if_neg e, if_neg (fun h => e ((hl x).2 h))]

section
variable {w w' : World} {gp gm : Nat} {cls : Int → Option Nat} {row : Nat → List Int} {val : Nat → Value} {pb : Nat → Prop}
theorem jcls_some {bl bm : Nat} {x : Int} {b : Nat} (hne : bl ≠ bm) (h : jcls cls bl bm x = some b) : (b = bl ∧ (cls x = some bl ∨ cls x = some bm)) ∨ (b ≠ bl ∧ b ≠ bm ∧ cls x = some b) := by
  unfold jcls at h
  by_cases e : cls x = some bm
  · rw [if_pos e] at h
    cases h
    exact .inl ⟨rfl, .inr e⟩
  · rw [if_neg e] at h
    by_cases e2 : b = bl
    · subst e2
      exact .inl ⟨rfl, .inl h⟩
    · exact .inr ⟨e2, fun e3 => e (e3 ▸ h), h⟩
theorem PtR.join (h : PtR w cls row val pb) {a c : Int} {bl bm : Nat} (hl : cls a = some bl) (hm : cls c = some bm) (hne : bl ≠ bm) {p : Nat → Prop} (hk : Kpt p w w') (hp : ∀ k, p k → k = bl ∨ (val bl).ownBlock = some k) {v' : Value}
    (hat : At w' bl [v'] 25) (ho : w'.ownsRow 0 3 1 v' (row bl ++ row bm).length (ints (row bl ++ row bm))) (hv : v'.ownBlock = (val bl).ownBlock ∨ ∀ k, v'.ownBlock = some k → w.heap.size ≤ k) :
    PtR w' (jcls cls bl bm) (fun b => if b = bl then row bl ++ row bm else row b) (fun b => if b = bl then v' else val b) (ext pb w w') := by
  have hoth : ∀ v b, cls v = some b → b ≠ bl → At w' b [val b] 25 ∧ w'.ownsRow 0 3 1 (val b) (row b).length (ints (row b)) := fun v b hvb hb => by
    obtain ⟨c1, c2, _, _⟩ := h.hb v b hvb
    obtain ⟨d1, d2, _, _⟩ := h.hb a bl hl
    obtain ⟨g', c', hval', _, _⟩ := c2.form (h.pos hvb)
    obtain ⟨g, cc, hval, _, _⟩ := d2.form (h.pos hl)
    have k1 : ¬ p b := fun hh => by
      rcases hp b hh with e | e
      · exact hb e
      · rw [hval] at e d2
        cases e
        obtain ⟨cs, hg⟩ := Mem.own_at d2
        exact (hg.ne c1 (by decide)) rfl
    have k2 : ∀ k, (val b).ownBlock = some k → ¬ p k := fun k hkk hh => by
      rcases hp k hh with rfl | e
      · rw [hval'] at hkk c2
        cases hkk
        obtain ⟨cs, hg⟩ := Mem.own_at c2
        exact (hg.ne d1 (by decide)) rfl
      · exact h.ne v a b bl k hvb hl hb hkk e
    refine ⟨c1.kept hk k1, c2.1, ?_⟩
    rcases c2.2 with h0 | ⟨g2, cap, cur, e1, e2, e3, r⟩
    · exact .inl h0
    · exact .inr ⟨g2, cap, cur, e1, e2, (hk.block g2 (lt_of_block e3) (k2 g2 (by rw [e1]; rfl))).trans e3, r⟩
  have hold : ∀ v b k, cls v = some b → (val b).ownBlock = some k → k < w.heap.size := fun v b k hvb hkk => h.lt k ((h.hb v b hvb).2.2.2 k hkk)
  have hvk : ∀ k, v'.ownBlock = some k → ext pb w w' k := fun k hkk => by
    rcases hv with e | e
    · exact .inl ((h.hb a bl hl).2.2.2 k (e ▸ hkk))
    · refine .inr ⟨e k hkk, ?_⟩
      have := ho.lt k hkk
      exact this.2
  have hsz := hk.size
  refine ⟨fun v b hvb => ?_, fun v b hvb x => ?_, fun v b hvb => ?_, fun v u b b' k hvb hub hbb e1 e2 => ?_, fun k hk' => ?_⟩
  · rcases jcls_some hne hvb with ⟨rfl, _⟩ | ⟨hb, _, hvb⟩
    · rw [if_pos rfl, if_pos rfl]
      exact ⟨hat, ho, .inl (h.hb a _ hl).2.2.1, hvk⟩
    · rw [if_neg hb, if_neg hb]
      obtain ⟨_, _, a3, a4⟩ := h.hb v b hvb
      exact ⟨(hoth v b hvb hb).1, (hoth v b hvb hb).2, .inl a3, fun k e => .inl (a4 k e)⟩
  · rcases jcls_some hne hvb with ⟨rfl, _⟩ | ⟨hb, hb2, hvb⟩
    · rw [if_pos rfl, List.mem_append, h.mem a _ hl x, h.mem c bm hm x]
      unfold jcls
      constructor
      · rintro (e | e)
        · rw [if_neg (by rw [e]; simpa using hne), e]
        · rw [if_pos e]
      · intro e
        by_cases e2 : cls x = some bm
        · exact .inr e2
        · rw [if_neg e2] at e; exact .inl e
    · rw [if_neg hb, h.mem v b hvb x]
      unfold jcls
      constructor
      · intro e
        rw [if_neg (by rw [e]; simpa using hb2), e]
      · intro e
        by_cases e2 : cls x = some bm
        · rw [if_pos e2] at e; cases e; exact absurd rfl hb
        · rw [if_neg e2] at e; exact e
  · rcases jcls_some hne hvb with ⟨rfl, _⟩ | ⟨hb, hb2, hvb⟩
    · rw [if_pos rfl, List.nodup_append]
      refine ⟨h.nd a _ hl, h.nd c bm hm, fun x hx y hy e => ?_⟩
      subst e
      have e1 := (h.mem a _ hl x).1 hx
      have e2 := (h.mem c bm hm x).1 hy
      rw [e1] at e2
      cases e2
      exact hne rfl
    · rw [if_neg hb]; exact h.nd v b hvb
  · rcases jcls_some hne hvb with ⟨c1, _⟩ | ⟨hb, _, hvb⟩ <;> rcases jcls_some hne hub with ⟨d1, _⟩ | ⟨hb', _, hub⟩
    · exact hbb (c1.trans d1.symm)
    · rw [if_pos c1] at e1
      rw [if_neg hb'] at e2
      rcases hv with e | e
      · exact h.ne a u bl b' k hl hub (fun e => hb' e.symm) (e ▸ e1) e2
      · have := e k e1
        have := hold u b' k hub e2
        omega
    · rw [if_neg hb] at e1
      rw [if_pos d1] at e2
      rcases hv with e | e
      · exact h.ne v a b bl k hvb hl hb e1 (e ▸ e2)
      · have := e k e2
        have := hold v b k hvb e1
        omega
    · rw [if_neg hb] at e1
      rw [if_neg hb'] at e2
      exact h.ne v u b b' k hvb hub hbb e1 e2
  · rcases hk' with hk' | ⟨_, hk'⟩
    · have := h.lt k hk'; omega
    · exact hk'

def tb36_1.T1 : Bool × List (List Nat × List Nat) := (true, [([], []), ([0], [0]), ([1], [1]), ([2], [2]), ([], []), ([3, 4], [3, 4]), ([], []), ([6], [6]), ([7], [7]), ([8], [8]), ([], []), ([9, 10], [9, 10]), ([5, 0, 1, 2, 3, 4, 5], [5]), ([11, 12, 0, 1, 2, 3, 4, 5, 6, 7, 8, 9, 10, 11, 12], [11])])
def tb36_1.B1 : List Nat := [0, 1, 3, 7, 0, 31, 0, 64, 192, 448, 0, 1984, 63, 8191]
theorem tb36_1.tab1 : rtab .any (opsOf Try.f36 1) = tb36_1.T1 := by kernel_rfl
theorem tb36_1.bits1 : waitsOk tb36_1.T1.2 tb36_1.B1 = true := by kernel_rfl
set_option maxHeartbeats 4000000 in
set_option maxRecDepth 100000 in
theorem join_no (h : PtS w gp gm cls row val pb) (a b : Int) (hn : cls a = none ∨ cls b = none ∨ cls a = cls b) :
    Calls Try.prog 36 #[.pointer (some ⟨gp, 0, none⟩), .int .i64 a, .int .i64 b] w fun e w' => e = .returned (.bool false) ∧ Below w.heap.size w w' := by
  have hd := h.below (w' := w.drew) (Below.refl _ _).drew
  have q0 := h.hp.cell 0 rfl
  have la := hd.look a
  have lb := hd.look b
  obtain ⟨va, hva⟩ : ∃ va, (ptf cls a).getD (.pointer none) = va := ⟨_, rfl⟩
  obtain ⟨vb, hvb⟩ : ∃ vb, (ptf cls b).getD (.pointer none) = vb := ⟨_, rfl⟩
  rw [hva] at la
  rw [hvb] at lb
  have HD := Lib.hid (And.intro hd (And.intro hn (And.intro hva hvb)))
  clear h hd hn hva hvb
  go_enter Try.func36, Try.ntmps36
  go_upto_region 1 with (fail)
  refine start_ (n := 14) (S := fun w' => w'.cell? ⟨gp, 0, none⟩ = some (.map (some gm)) ∧ (Instr.lookup 79 (.map (some gm)) (.int .i64 a) false).run Try.prog w' = .ok va w' ∧ (Instr.lookup 79 (.map (some gm)) (.int .i64 b) false).run Try.prog w' = .ok vb w') (ds := []) (bA 14 0) (by kernel_rfl) rfl rfl ⟨q0, la, lb⟩ (fun hHeld => ?_)
  refine with_tabW tb36_1.tab1 tb36_1.bits1 (fun HT_ HW_ => ?_)
  refine pw_ 0 11 (bA 14 1) HT_.out ?_
  refine pw_ 1 12 (bA 14 3) HT_.out ?_
  refine pw_ 2 13 (bA 14 7) HT_.out ?_
  refine pw_ 4 15 (bA 14 23) HT_.out ?_
  refine pw_ 6 17 (bA 14 87) HT_.out ?_
  refine pw_ 7 18 (bA 14 215) HT_.out ?_
  refine pw_ 8 19 (bA 14 471) HT_.out ?_
  refine pw_ 10 21 (bA 14 1495) HT_.out ?_
  refine tw_ 3 14 (bA 14 1503) HT_.out HW_.out hHeld (hv := by rintro w' ⟨s0, s1, s2⟩; go_simp; with_reducible rfl) (h := ?_)
  refine tw_ 5 16 (bA 14 1535) HT_.out HW_.out hHeld (hv := by rintro w' ⟨s0, s1, s2⟩; go_simp; with_reducible rfl) (h := ?_)
  refine pw_ 12 7 (bA 14 5631) HT_.out ?_
  refine tw_ 9 20 (bA 14 6143) HT_.out HW_.out hHeld (hv := by rintro w' ⟨s0, s1, s2⟩; go_simp; with_reducible rfl) (h := ?_)
  refine tw_ 11 22 (bA 14 8191) HT_.out HW_.out hHeld (hv := by rintro w' ⟨s0, s1, s2⟩; go_simp; with_reducible rfl) (h := ?_)
  refine pw_ 13 8 (bA 14 16383) HT_.out ?_
  refine done_ (done_of HT_.out (by kernel_rfl)) ?_
  clear hHeld HT_ HW_; clear q0 la lb
  obtain ⟨hd, hn, hva, hvb⟩ := HD.out
  cases ha : cls a with
  | none =>
    rw [ptf_none ha] at hva
    subst hva
    clear hd hn hvb ha; simp only [Option.getD_none]
    go_wp2
    go_ret
    exact ⟨rfl, (Below.refl _ _).drew⟩
  | some ba =>
    rw [ptf_some ha] at hva
    subst hva
    cases hb : cls b with
    | none =>
      rw [ptf_none hb] at hvb
      subst hvb
      clear hd hn ha hb; simp only [Option.getD_none, Option.getD_some]
      go_wp2
      go_ret
      exact ⟨rfl, (Below.refl _ _).drew⟩
    | some bb =>
      rw [ptf_some hb] at hvb
      subst hvb
      have hbb : ba = bb := by
        rcases hn with e | e | e
        · rw [ha] at e; cases e
        · rw [hb] at e; cases e
        · rw [ha, hb] at e; exact Option.some.inj e
      subst hbb
      have heq := hd.eqp ha hb
      simp only [decide_true] at heq
      clear hd hn ha hb; simp only [Option.getD_some]
      go_wp2
      go_ret
      exact ⟨rfl, (Below.refl _ _).drew⟩
end
end Go.Proofs.Ythomnpgpbhpojaa.Pt
