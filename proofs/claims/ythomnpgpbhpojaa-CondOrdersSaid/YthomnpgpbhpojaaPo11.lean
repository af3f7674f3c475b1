/- cond.Cond in memory; heads and tails. -/
import Derived.Test.YthomnpgpbhpojaaPo10
namespace Go.Proofs.Ythomnpgpbhpojaa.Cd
open Go Go.RowKit Go.Proofs.Ythomnpgpbhpojaa.Mem Go.Proofs.Ythomnpgpbhpojaa.Sl Go.Proofs.Ythomnpgpbhpojaa.Lw Go.Proofs.Ythomnpgpbhpojaa.Pt Go.Proofs.YthomnpgpbhpojaaW.PrintWords Go.Proofs.YthomnpgpbhpojaaW.PrintLast
attribute [local go_sem ↓] Go.wp_at_zero Go.wp_at_succ
set_option linter.unusedSimpArgs false
set_option linter.unusedVariables false

def aV (p : Int × Int) : Value := .agg #[.int .i64 p.1, .int .i64 p.2]
def arF (arcs : Int → Option (Int × Int)) : Int → Option Value := fun e => (arcs e).map aV
def vtF (cls : Int → Option Nat) (ob : Int → Nat) : Int → Option Value := fun v => (cls v).map fun _ => .map (some (ob v))
def ouF (arcs : Int → Option (Int × Int)) (v : Int) : Int → Option Value := fun e => (arcs e).bind fun p => if p.1 = v then some (aV p) else none
def inF (arcs : Int → Option (Int × Int)) (v : Int) : Int → Option Value := fun e => (arcs e).bind fun p => if p.2 = v then some (aV p) else none
theorem ouF_iff {arcs : Int → Option (Int × Int)} {v e : Int} {x : Value} : ouF arcs v e = some x ↔ ∃ y, arcs e = some (v, y) ∧ x = aV (v, y) := by
  unfold ouF
  cases h : arcs e with
  | none => simp
  | some p =>
    obtain ⟨a, b⟩ := p
    simp only [Option.bind_some]
    by_cases e1 : a = v
    · subst e1
      rw [if_pos rfl]
      constructor
      · intro h; cases h; exact ⟨b, rfl, rfl⟩
      · rintro ⟨y, h, rfl⟩; cases h; rfl
    · rw [if_neg e1]
      constructor
      · intro h; cases h
      · rintro ⟨y, h, _⟩; cases h; exact absurd rfl e1
theorem inF_iff {arcs : Int → Option (Int × Int)} {v e : Int} {x : Value} : inF arcs v e = some x ↔ ∃ y, arcs e = some (y, v) ∧ x = aV (y, v) := by
  unfold inF
  cases h : arcs e with
  | none => simp
  | some p =>
    obtain ⟨a, b⟩ := p
    simp only [Option.bind_some]
    by_cases e1 : b = v
    · subst e1
      rw [if_pos rfl]
      constructor
      · intro h; cases h; exact ⟨a, rfl, rfl⟩
      · rintro ⟨y, h, rfl⟩; cases h; rfl
    · rw [if_neg e1]
      constructor
      · intro h; cases h
      · rintro ⟨y, h, _⟩; cases h; exact absurd rfl e1

structure Tg (ga go gi gm : Nat) (ob ib : Int → Nat) (D : Int → Prop) (tg : Nat → Nat × Int) : Prop where
  a : tg ga = (0, 0)
  o : tg go = (1, 0)
  i : tg gi = (2, 0)
  m : tg gm = (3, 0)
  ob : ∀ v, D v → tg (ob v) = (4, v)
  ib : ∀ v, D v → tg (ib v) = (5, v)
structure CdM (w : World) (gc ga go gi gp gm : Nat) (lk : Int) (fa fo fi : Int → Option Value) (ob ib : Int → Nat) (Fo Fi : Int → Int → Option Value) (D : Int → Prop) (tg : Nat → Nat × Int) (pb cb : Nat → Prop) : Prop where
  hc : At w gc [.map (some ga), .map (some go), .map (some gi), .pointer (some ⟨gp, 0, none⟩), .int .i64 lk] 58
  ha : MQ w ga fa
  ho : MQ w go fo
  hi : MQ w gi fi
  oo : ∀ v, D v → MQ w (ob v) (Fo v)
  ii : ∀ v, D v → MQ w (ib v) (Fi v)
  t : Tg ga go gi gm ob ib D tg
  nc : ¬ pb gc
  na : ¬ pb ga
  no : ¬ pb go
  ni : ¬ pb gi
  nob : ∀ v, D v → ¬ pb (ob v)
  nib : ∀ v, D v → ¬ pb (ib v)
  cc : cb gc
  ca : cb ga
  co : cb go
  ci : cb gi
  cob : ∀ v, D v → cb (ob v)
  cib : ∀ v, D v → cb (ib v)
  cp : ∀ k, pb k → cb k
  cgp : cb gp
  lt : ∀ k, cb k → k < w.heap.size
structure CdS (w : World) (gc ga go gi gp gm : Nat) (lk : Int) (arcs : Int → Option (Int × Int)) (ob ib : Int → Nat) (cls : Int → Option Nat) (row : Nat → List Int) (val : Nat → Value) (tg : Nat → Nat × Int) (pb cb : Nat → Prop) : Prop where
  m : CdM w gc ga go gi gp gm lk (arF arcs) (vtF cls ob) (vtF cls ib) ob ib (ouF arcs) (inF arcs) (fun v => cls v ≠ none) tg pb cb
  p : PtS w gp gm cls row val pb
  en : ∀ e p, arcs e = some p → cls p.1 ≠ none ∧ cls p.2 ≠ none
  fin : ∃ K : List Int, K.length ≤ 1000 ∧ ∀ e, arcs e ≠ none → e ∈ K

section
variable {w w' : World} {gc ga go gi gp gm : Nat} {lk : Int} {arcs : Int → Option (Int × Int)} {ob ib : Int → Nat} {cls : Int → Option Nat} {row : Nat → List Int} {val : Nat → Value} {tg : Nat → Nat × Int} {pb cb : Nat → Prop} {fa fo fi : Int → Option Value} {Fo Fi : Int → Int → Option Value} {D : Int → Prop}
theorem CdM.below (h : CdM w gc ga go gi gp gm lk fa fo fi ob ib Fo Fi D tg pb cb) (hb : Below w.heap.size w w') : CdM w' gc ga go gi gp gm lk fa fo fi ob ib Fo Fi D tg pb cb :=
  ⟨h.hc.below hb h.hc.lt, h.ha.below hb h.ha.lt, h.ho.below hb h.ho.lt, h.hi.below hb h.hi.lt, fun v hv => (h.oo v hv).below hb (h.oo v hv).lt, fun v hv => (h.ii v hv).below hb (h.ii v hv).lt, h.t, h.nc, h.na, h.no, h.ni, h.nob, h.nib, h.cc, h.ca, h.co, h.ci, h.cob, h.cib, h.cp, h.cgp, fun k hk => Nat.lt_of_lt_of_le (h.lt k hk) hb.size⟩
theorem CdS.below (h : CdS w gc ga go gi gp gm lk arcs ob ib cls row val tg pb cb) (hb : Below w.heap.size w w') : CdS w' gc ga go gi gp gm lk arcs ob ib cls row val tg pb cb := ⟨h.m.below hb, h.p.below hb, h.en, h.fin⟩
theorem CdM.look (h : CdM w gc ga go gi gp gm lk fa fo fi ob ib Fo Fi D tg pb cb) (lk' : Int) : CdM (w.setCell ⟨gc, 4, none⟩ (.int .i64 lk')) gc ga go gi gp gm lk' fa fo fi ob ib Fo Fi D tg pb cb :=
  ⟨h.hc.put rfl, h.ha.off (h.ha.ne h.hc), h.ho.off (h.ho.ne h.hc), h.hi.off (h.hi.ne h.hc), fun v hv => (h.oo v hv).off ((h.oo v hv).ne h.hc), fun v hv => (h.ii v hv).off ((h.ii v hv).ne h.hc), h.t, h.nc, h.na, h.no, h.ni, h.nob, h.nib, h.cc, h.ca, h.co, h.ci, h.cob, h.cib, h.cp, h.cgp, fun k hk => by simpa [World.setCell] using h.lt k hk⟩
theorem PtS.keep {p : Nat → Prop} (h : PtS w gp gm cls row val pb) (hk : Kpt p w w') (h1 : ¬ p gp) (hp : ∀ k, pb k → ¬ p k) : PtS w' gp gm cls row val pb :=
  ⟨h.hp.kept hk h1, h.hm.move (hk.block gm h.hm.lt (hp gm h.pm)), h.pm, h.np, h.r.frame hk fun v b hv => ⟨hp b (h.r.hb v b hv).2.2.1, fun k e => hp k ((h.r.hb v b hv).2.2.2 k e)⟩⟩
theorem CdS.look (h : CdS w gc ga go gi gp gm lk arcs ob ib cls row val tg pb cb) (lk' : Int) : CdS (w.setCell ⟨gc, 4, none⟩ (.int .i64 lk')) gc ga go gi gp gm lk' arcs ob ib cls row val tg pb cb :=
  ⟨h.m.look lk', PtS.keep (p := (· = gc)) h.p ((Kpt.refl (· = gc) w).set (fun _ => rfl) _) (fun e => by
    have := h.m.hc.ne h.p.hp (by decide)
    exact this e.symm) (fun k hk e => h.m.nc (e ▸ hk)), h.en, h.fin⟩

theorem zero_map : ∀ w : World, (zeroValue 53).run Try.prog w = .ok (.map none) w := fun w => by kernel_rfl
theorem nodup_le : ∀ {l m : List Int}, l.Nodup → (∀ x ∈ l, x ∈ m) → l.length ≤ m.length
  | [], _, _, _ => by simp
  | a :: l, m, hn, hs => by
    rw [List.nodup_cons] at hn
    have h1 := nodup_le (m := m.erase a) hn.2 fun x hx => (List.mem_erase_of_ne (fun e : x = a => hn.1 (e ▸ hx))).2 (hs x (by simp [hx]))
    have h2 := List.length_erase_of_mem (hs a (by simp))
    have h3 := List.length_pos_of_mem (hs a (by simp))
    rw [List.length_cons]
    omega

theorem mr_own {r b : Nat} {f : Int → Option Value} {done : List Int} (h : MR w r b f done) {base : Nat} {e : TypeId} {size n : Nat} {v : Value} {xs : List Value} (ho : w.ownsRow base e size v n xs) : some r ≠ v.ownBlock := by
  intro he
  rcases ho.2 with ⟨rfl, _⟩ | ⟨g, cap, cur, rfl, _, hh, _⟩
  · simp [Value.ownBlock] at he
  · have : r = g := by simpa [Value.ownBlock] using he
    subst this
    exact h.off_at (g := r) (cs := cur.toList) (T := e) (by simpa [At] using hh) rfl
set_option maxHeartbeats 8000000 in
set_option maxRecDepth 100000 in
theorem heads_calls (h : CdS w gc ga go gi gp gm lk arcs ob ib cls row val tg pb cb) (v : Int) (hv : cls v ≠ none) :
    Calls Try.prog 32 #[.pointer (some ⟨gc, 0, none⟩), .int .i64 v] w fun e w' => ∃ u l, e = .returned u ∧ w'.ownsRow w.heap.size 3 1 u l.length (ints l) ∧ Below w.heap.size w w' ∧ l.length ≤ 1000 ∧ ∀ y, y ∈ l ↔ ∃ e, arcs e = some (v, y) := by
  obtain ⟨i1, hi1, hz1, hs1, hy1⟩ := info_parts Lw.info_int
  have hlk := h.m.ho.lookup Try.underlying54 Try.underlying3 zero_map v
  obtain ⟨b0, hb0⟩ := Option.ne_none_iff_exists'.1 hv
  rw [show vtF cls ob v = some (.map (some (ob v))) by simp [vtF, hb0], Option.getD_some] at hlk
  obtain ⟨K, hK, hKm⟩ := h.fin
  have q1 := h.m.hc.cell 1 rfl
  obtain ⟨o, hrun, hMR⟩ := (h.m.oo v hv).range (P := Try.prog) Try.underlying53
  obtain ⟨bo, hbo⟩ : ∃ bo, ob v = bo := ⟨_, rfl⟩
  rw [hbo] at hlk hrun hMR
  have HX := Lib.hid (And.intro hMR (And.intro hK hKm))
  have HB := Lib.hid ((Below.refl w.heap.size w).alloc (Nat.le_refl _) o)
  clear h hv hb0 hK hKm hMR hbo
  go_enter Try.func32, Try.ntmps32
  go_wp2_with fail
  refine gen_world (fun W => MR W w.heap.size bo (ouF arcs v) [] ∧ Below w.heap.size w W) ⟨HX.out.1, HB.out⟩ ?_
  obtain ⟨r, hr⟩ : ∃ r, w.heap.size = r := ⟨_, rfl⟩
  have HR := Lib.hid hr
  rw [hr]
  rintro w1 ⟨hM, hb⟩
  rw [← hr] at hb
  have H1 := Lib.hid (And.intro hM hb)
  clear hM hb hr HB hrun hlk q1
  go_loopg [5] (K.length + 1) (fun kq v5 w' => Hid (∃ done l, done.length + kq = K.length + 1 ∧ done.length = l.length ∧ MR w' r bo (ouF arcs v) done ∧ w'.ownsRow w.heap.size 3 1 v5 l.length (ints l) ∧ Below w.heap.size w w' ∧ ∀ y, y ∈ l ↔ ∃ e ∈ done, arcs e = some (v, y)))
  case atStart => exact Lib.hid ⟨[], [], by simp, rfl, H1.out.1, World.ownsRow_nil _ _ _ _, H1.out.2, fun y => by simp⟩
  case round =>
    obtain ⟨done, l, hdk, hdl, hM, ho, hb, hl⟩ := hrel.out
    clear hrel H1
    have hdK : done.length ≤ K.length := nodup_le hM.2.1 fun x hx => by
      obtain ⟨u, hu⟩ := hM.all x hx
      obtain ⟨y, hy, _⟩ := ouF_iff.1 hu
      exact HX.out.2.2 x (by rw [hy]; simp)
    have hK := HX.out.2.1
    rcases hM.next (P := Try.prog) 0 with ⟨hall, hnx⟩ | ⟨a, u, w2, hf, hnd, hnx, hM2, hg, hsz, hent⟩
    · have HQ := Lib.hid (show w.heap.size ≤ wr.heap.size ∧ wr.ownsRow w.heap.size 3 1 u5 l.length (ints l) ∧ Below w.heap.size w wr ∧ l.length ≤ 1000 ∧ ∀ y, y ∈ l ↔ ∃ e, arcs e = some (v, y) from ⟨hb.size, ho, hb, by omega, fun y => by
        rw [hl y]
        constructor
        · rintro ⟨e, _, he⟩; exact ⟨e, he⟩
        · rintro ⟨e, he⟩; exact ⟨e, hall e _ (ouF_iff.2 ⟨y, he, rfl⟩), he⟩⟩)
      clear hM ho hb hl hall hdK hdl hdk
      go_wp2
      go_ret
      exact ⟨_, l, rfl, HQ.out.2⟩
    · obtain ⟨k1, rfl⟩ : ∃ k1, gk = k1 + 1 := ⟨gk - 1, by omega⟩
      obtain ⟨y, hy, rfl⟩ := ouF_iff.1 hf
      unfold aV at hnx hent
      have hb2 : Below w.heap.size w w2 := hb.grown hg hb.size (fun k hk => by cases hk; have := HR.out; omega)
      have ho2 : w2.ownsRow w.heap.size 3 1 u5 l.length (ints l) := ho.kept hg (.inr fun e => mr_own hM ho e.symm)
      have hnew : ∀ z, z ∈ l ++ [y] ↔ ∃ e ∈ done ++ [a], arcs e = some (v, z) := fun z => by
        rw [List.mem_append, hl z, List.mem_singleton]
        constructor
        · rintro (⟨e, he, h2⟩ | rfl)
          · exact ⟨e, by simp [he], h2⟩
          · exact ⟨a, by simp, hy⟩
        · rintro ⟨e, he, h2⟩
          rcases List.mem_append.1 he with he | he
          · exact .inl ⟨e, he, h2⟩
          · obtain rfl : e = a := by simpa using he
            rw [hy] at h2
            cases h2
            exact .inr rfl
      have HN := Lib.hid (And.intro hnew (And.intro hdk hdl))
      have hd2 := nodup_le hM2.2.1 (m := K) fun x hx => by
        obtain ⟨u, hu⟩ := hM2.all x hx
        obtain ⟨y, hy, _⟩ := ouF_iff.1 hu
        exact HX.out.2.2 x (by rw [hy]; simp)
      rw [List.length_append, List.length_singleton] at hd2
      have hll : l.length ≤ 1000 := by omega
      have HM := Lib.hid (And.intro hM2 (And.intro ho2 hb2))
      clear hM ho hb hl hnd hM2 hg hsz ho2 hb2 hnew hf hdk hdl hdK hd2 hK
      go_upto_region 5 with (fail)
      refine gen_world (fun W => At W w2.heap.size [.int .i64 v, .int .i64 y] 69 ∧ MR W r bo (ouF arcs v) (done ++ [a]) ∧ W.ownsRow w.heap.size 3 1 u5 l.length (ints l) ∧ Below w.heap.size w W) ?_ ?_
      · exact ⟨At.made rfl rfl, HM.out.1.below ((Below.refl _ _).alloc (Nat.le_refl _) _), Lw.own_below HM.out.2.1 ((Below.refl _ _).alloc (Nat.le_refl _) _), HM.out.2.2.alloc HM.out.2.2.size _⟩
      obtain ⟨g7, hg7⟩ : ∃ g7, w2.heap.size = g7 := ⟨_, rfl⟩
      rw [hg7]
      clear hg7 HM hnx hent
      rintro w3 ⟨hat, hM3, ho3, hb3⟩
      have qa := hat.cell 1 rfl
      have HO := Lib.hid ho3
      have H3 := Lib.hid (And.intro hM3 hb3)
      clear hat hM3 ho3 hb3
      go_wp2_with ((at_builtin; refine wpList_append_any rfl (.tmp 19) (.tmp 22) 25 rfl w.heap.size 3 i1 (.int .i64 0) 1 8 Try.underlying25 hi1 hz1 hs1 hy1 rfl (by omega) _ _ _ rfl (HO.out.alloc (.cells #[.int .i64 y] 3)) _ rfl 1 [.int .i64 y] (RdV.lit _ #[.int .i64 y] 3 1 1 1 rfl (by simp [Value.oneCell'])) (by unfold maxLen; omega) (by omega) (by have := H3.out.2.size; simp; omega) ?_; intro v5 w5 ho hg hn; have hm5 := (H3.out.1.below ((Below.refl _ _).alloc (Nat.le_refl _) (.cells #[.int .i64 y] 3))).move (w' := w5) (hg.block bo ((H3.out.1.below ((Below.refl _ _).alloc (Nat.le_refl _) (.cells #[.int .i64 y] 3))).1.lt) ((H3.out.1.below ((Below.refl _ _).alloc (Nat.le_refl _) (.cells #[.int .i64 y] 3))).1.own (HO.out.alloc (.cells #[.int .i64 y] 3)))) (hg.block r ((H3.out.1.below ((Below.refl _ _).alloc (Nat.le_refl _) (.cells #[.int .i64 y] 3))).lt) (mr_own (H3.out.1.below ((Below.refl _ _).alloc (Nat.le_refl _) (.cells #[.int .i64 y] 3))) (HO.out.alloc (.cells #[.int .i64 y] 3)))); have hb5 := (H3.out.2.alloc H3.out.2.size (.cells #[.int .i64 y] 3)).grown hg (by have := H3.out.2.size; simp; omega) (fun k hk => (HO.out.lt k hk).1); have H5 := Lib.hid (And.intro ho (And.intro hm5 hb5)); clear ho hg hn hm5 hb5 HO H3))
      go_roundg k1
      case measure => omega
      case rel =>
        obtain ⟨ho, hm5, hb5⟩ := H5.out
        obtain ⟨hnew, hdk, hdl⟩ := HN.out
        exact Lib.hid ⟨done ++ [a], l ++ [y], by rw [List.length_append, List.length_singleton]; omega, by rw [List.length_append, List.length_append, hdl]; rfl, hm5, by rw [List.length_append, ints_app]; exact ho, hb5, hnew⟩

set_option maxHeartbeats 8000000 in
set_option maxRecDepth 100000 in
theorem tails_calls (h : CdS w gc ga go gi gp gm lk arcs ob ib cls row val tg pb cb) (v : Int) (hv : cls v ≠ none) :
    Calls Try.prog 34 #[.pointer (some ⟨gc, 0, none⟩), .int .i64 v] w fun e w' => ∃ u l, e = .returned u ∧ w'.ownsRow w.heap.size 3 1 u l.length (ints l) ∧ Below w.heap.size w w' ∧ l.length ≤ 1000 ∧ ∀ y, y ∈ l ↔ ∃ e, arcs e = some (y, v) := by
  obtain ⟨i1, hi1, hz1, hs1, hy1⟩ := info_parts Lw.info_int
  have hlk := h.m.hi.lookup Try.underlying54 Try.underlying3 zero_map v
  obtain ⟨b0, hb0⟩ := Option.ne_none_iff_exists'.1 hv
  rw [show vtF cls ib v = some (.map (some (ib v))) by simp [vtF, hb0], Option.getD_some] at hlk
  obtain ⟨K, hK, hKm⟩ := h.fin
  have q2 := h.m.hc.cell 2 rfl
  obtain ⟨o, hrun, hMR⟩ := (h.m.ii v hv).range (P := Try.prog) Try.underlying53
  obtain ⟨bo, hbo⟩ : ∃ bo, ib v = bo := ⟨_, rfl⟩
  rw [hbo] at hlk hrun hMR
  have HX := Lib.hid (And.intro hMR (And.intro hK hKm))
  have HB := Lib.hid ((Below.refl w.heap.size w).alloc (Nat.le_refl _) o)
  clear h hv hb0 hK hKm hMR hbo
  go_enter Try.func34, Try.ntmps34
  go_wp2_with fail
  refine gen_world (fun W => MR W w.heap.size bo (inF arcs v) [] ∧ Below w.heap.size w W) ⟨HX.out.1, HB.out⟩ ?_
  obtain ⟨r, hr⟩ : ∃ r, w.heap.size = r := ⟨_, rfl⟩
  have HR := Lib.hid hr
  rw [hr]
  rintro w1 ⟨hM, hb⟩
  rw [← hr] at hb
  have H1 := Lib.hid (And.intro hM hb)
  clear hM hb hr HB hrun hlk q2
  go_loopg [5] (K.length + 1) (fun kq v5 w' => Hid (∃ done l, done.length + kq = K.length + 1 ∧ done.length = l.length ∧ MR w' r bo (inF arcs v) done ∧ w'.ownsRow w.heap.size 3 1 v5 l.length (ints l) ∧ Below w.heap.size w w' ∧ ∀ y, y ∈ l ↔ ∃ e ∈ done, arcs e = some (y, v)))
  case atStart => exact Lib.hid ⟨[], [], by simp, rfl, H1.out.1, World.ownsRow_nil _ _ _ _, H1.out.2, fun y => by simp⟩
  case round =>
    obtain ⟨done, l, hdk, hdl, hM, ho, hb, hl⟩ := hrel.out
    clear hrel H1
    have hdK : done.length ≤ K.length := nodup_le hM.2.1 fun x hx => by
      obtain ⟨u, hu⟩ := hM.all x hx
      obtain ⟨y, hy, _⟩ := inF_iff.1 hu
      exact HX.out.2.2 x (by rw [hy]; simp)
    have hK := HX.out.2.1
    rcases hM.next (P := Try.prog) 0 with ⟨hall, hnx⟩ | ⟨a, u, w2, hf, hnd, hnx, hM2, hg, hsz, hent⟩
    · have HQ := Lib.hid (show w.heap.size ≤ wr.heap.size ∧ wr.ownsRow w.heap.size 3 1 u5 l.length (ints l) ∧ Below w.heap.size w wr ∧ l.length ≤ 1000 ∧ ∀ y, y ∈ l ↔ ∃ e, arcs e = some (y, v) from ⟨hb.size, ho, hb, by omega, fun y => by
        rw [hl y]
        constructor
        · rintro ⟨e, _, he⟩; exact ⟨e, he⟩
        · rintro ⟨e, he⟩; exact ⟨e, hall e _ (inF_iff.2 ⟨y, he, rfl⟩), he⟩⟩)
      clear hM ho hb hl hall hdK hdl hdk
      go_wp2
      go_ret
      exact ⟨_, l, rfl, HQ.out.2⟩
    · obtain ⟨k1, rfl⟩ : ∃ k1, gk = k1 + 1 := ⟨gk - 1, by omega⟩
      obtain ⟨y, hy, rfl⟩ := inF_iff.1 hf
      unfold aV at hnx hent
      have hb2 : Below w.heap.size w w2 := hb.grown hg hb.size (fun k hk => by cases hk; have := HR.out; omega)
      have ho2 : w2.ownsRow w.heap.size 3 1 u5 l.length (ints l) := ho.kept hg (.inr fun e => mr_own hM ho e.symm)
      have hnew : ∀ z, z ∈ l ++ [y] ↔ ∃ e ∈ done ++ [a], arcs e = some (z, v) := fun z => by
        rw [List.mem_append, hl z, List.mem_singleton]
        constructor
        · rintro (⟨e, he, h2⟩ | rfl)
          · exact ⟨e, by simp [he], h2⟩
          · exact ⟨a, by simp, hy⟩
        · rintro ⟨e, he, h2⟩
          rcases List.mem_append.1 he with he | he
          · exact .inl ⟨e, he, h2⟩
          · obtain rfl : e = a := by simpa using he
            rw [hy] at h2
            cases h2
            exact .inr rfl
      have HN := Lib.hid (And.intro hnew (And.intro hdk hdl))
      have hd2 := nodup_le hM2.2.1 (m := K) fun x hx => by
        obtain ⟨u, hu⟩ := hM2.all x hx
        obtain ⟨y, hy, _⟩ := inF_iff.1 hu
        exact HX.out.2.2 x (by rw [hy]; simp)
      rw [List.length_append, List.length_singleton] at hd2
      have hll : l.length ≤ 1000 := by omega
      have HM := Lib.hid (And.intro hM2 (And.intro ho2 hb2))
      clear hM ho hb hl hnd hM2 hg hsz ho2 hb2 hnew hf hdk hdl hdK hd2 hK
      go_upto_region 5 with (fail)
      refine gen_world (fun W => At W w2.heap.size [.int .i64 y, .int .i64 v] 69 ∧ MR W r bo (inF arcs v) (done ++ [a]) ∧ W.ownsRow w.heap.size 3 1 u5 l.length (ints l) ∧ Below w.heap.size w W) ?_ ?_
      · exact ⟨At.made rfl rfl, HM.out.1.below ((Below.refl _ _).alloc (Nat.le_refl _) _), Lw.own_below HM.out.2.1 ((Below.refl _ _).alloc (Nat.le_refl _) _), HM.out.2.2.alloc HM.out.2.2.size _⟩
      obtain ⟨g7, hg7⟩ : ∃ g7, w2.heap.size = g7 := ⟨_, rfl⟩
      rw [hg7]
      clear hg7 HM hnx hent
      rintro w3 ⟨hat, hM3, ho3, hb3⟩
      have qa := hat.cell 0 rfl
      have HO := Lib.hid ho3
      have H3 := Lib.hid (And.intro hM3 hb3)
      clear hat hM3 ho3 hb3
      go_wp2_with ((at_builtin; refine wpList_append_any rfl (.tmp 19) (.tmp 22) 25 rfl w.heap.size 3 i1 (.int .i64 0) 1 8 Try.underlying25 hi1 hz1 hs1 hy1 rfl (by omega) _ _ _ rfl (HO.out.alloc (.cells #[.int .i64 y] 3)) _ rfl 1 [.int .i64 y] (RdV.lit _ #[.int .i64 y] 3 1 1 1 rfl (by simp [Value.oneCell'])) (by unfold maxLen; omega) (by omega) (by have := H3.out.2.size; simp; omega) ?_; intro v5 w5 ho hg hn; have hm5 := (H3.out.1.below ((Below.refl _ _).alloc (Nat.le_refl _) (.cells #[.int .i64 y] 3))).move (w' := w5) (hg.block bo ((H3.out.1.below ((Below.refl _ _).alloc (Nat.le_refl _) (.cells #[.int .i64 y] 3))).1.lt) ((H3.out.1.below ((Below.refl _ _).alloc (Nat.le_refl _) (.cells #[.int .i64 y] 3))).1.own (HO.out.alloc (.cells #[.int .i64 y] 3)))) (hg.block r ((H3.out.1.below ((Below.refl _ _).alloc (Nat.le_refl _) (.cells #[.int .i64 y] 3))).lt) (mr_own (H3.out.1.below ((Below.refl _ _).alloc (Nat.le_refl _) (.cells #[.int .i64 y] 3))) (HO.out.alloc (.cells #[.int .i64 y] 3)))); have hb5 := (H3.out.2.alloc H3.out.2.size (.cells #[.int .i64 y] 3)).grown hg (by have := H3.out.2.size; simp; omega) (fun k hk => (HO.out.lt k hk).1); have H5 := Lib.hid (And.intro ho (And.intro hm5 hb5)); clear ho hg hn hm5 hb5 HO H3))
      go_roundg k1
      case measure => omega
      case rel =>
        obtain ⟨ho, hm5, hb5⟩ := H5.out
        obtain ⟨hnew, hdk, hdl⟩ := HN.out
        exact Lib.hid ⟨done ++ [a], l ++ [y], by rw [List.length_append, List.length_singleton]; omega, by rw [List.length_append, List.length_append, hdl]; rfl, hm5, by rw [List.length_append, ints_app]; exact ho, hb5, hnew⟩

end
end Go.Proofs.Ythomnpgpbhpojaa.Cd

/- cond: reach. -/
namespace Go.Proofs.Ythomnpgpbhpojaa.Cd
open Go Go.RowKit Go.Proofs.Ythomnpgpbhpojaa.Mem Go.Proofs.Ythomnpgpbhpojaa.Sl Go.Proofs.Ythomnpgpbhpojaa.Lw Go.Proofs.Ythomnpgpbhpojaa.Pt Go.Proofs.YthomnpgpbhpojaaW.PrintWords Go.Proofs.YthomnpgpbhpojaaW.PrintLast
attribute [local go_sem ↓] Go.wp_at_zero Go.wp_at_succ
set_option linter.unusedSimpArgs false
set_option linter.unusedVariables false

inductive Cl (N : Int → Int → Prop) (a : Int) : Int → Prop
  | base : Cl N a a
  | step {x y : Int} : Cl N a x → N x y → Cl N a y
def seenF (S : List Int) : Int → Option Value := fun x => if x ∈ S then some (.int .i64 1) else none
theorem seenF_eq {S T : List Int} (h : ∀ x, x ∈ S ↔ x ∈ T) : seenF S = seenF T := by
  funext x
  unfold seenF
  by_cases e : x ∈ S
  · rw [if_pos e, if_pos ((h x).1 e)]
  · rw [if_neg e, if_neg (fun h2 => e ((h x).2 h2))]
theorem seenF_add (S : List Int) (x : Int) : updV (seenF S) x (some (.int .i64 1)) = seenF (S ++ [x]) := by
  funext y
  unfold updV seenF
  by_cases e : y = x
  · rw [if_pos e, if_pos (by simp [e])]
  · rw [if_neg e]
    by_cases e2 : y ∈ S
    · rw [if_pos e2, if_pos (by simp [e2])]
    · rw [if_neg e2, if_neg (by simp [e, e2])]
theorem seenF_yes {S : List Int} {x : Int} (h : x ∈ S) : (seenF S x).getD (.int .i64 0) = .int .i64 1 := by simp [seenF, h]
theorem seenF_no {S : List Int} {x : Int} (h : x ∉ S) : (seenF S x).getD (.int .i64 0) = .int .i64 0 := by simp [seenF, h]
theorem zero_int : ∀ w : World, (zeroValue 3).run Try.prog w = .ok (.int .i64 0) w := fun w => by kernel_rfl
theorem look_seen {w : World} {b : Nat} {f : Int → Option Value} (h : MQ w b f) (x : Int) : (Instr.lookup 71 (.map (some b)) (.int .i64 x) false).run Try.prog w = .ok ((f x).getD (.int .i64 0)) w :=
  h.lookup Try.underlying71 Try.underlying3 zero_int x
theorem run_mkI (w : World) : (Instr.makeMap 71 none).run Try.prog w = .ok (.map (some w.heap.size)) (w.alloc (.map #[] 0)) := rfl
theorem mem_app_swap {D O : List Int} {u x : Int} : x ∈ D ++ (O ++ [u]) ↔ x ∈ (D ++ [u]) ++ O := by simp [or_comm, or_left_comm, or_assoc]
theorem nodup_swap {D O : List Int} {u : Int} (h : (D ++ (O ++ [u])).Nodup) : ((D ++ [u]) ++ O).Nodup := by
  refine (List.Perm.nodup_iff ?_).1 h
  rw [List.append_assoc]
  exact List.Perm.append_left D List.perm_append_comm
theorem kpt_belowB {p : Nat → Prop} {w W W' : World} (h : Kpt p w W) (hb : Below w.heap.size W W') : Kpt p w W' :=
  ⟨hb.os.trans h.os, hb.tape.trans h.tape, hb.output.trans h.output, Nat.le_trans h.size hb.size, fun k hk hn => (hb.block k hk).trans (h.block k hk hn)⟩
theorem own_less {w : World} {B g n cap : Nat} {T : TypeId} {xs : List Value} {x : Value} (h : w.ownsRow B T 1 (.slice (some ⟨g, 0, none⟩) (n + 1) cap) (n + 1) (xs ++ [x])) : w.ownsRow B T 1 (.slice (some ⟨g, 0, none⟩) n cap) n xs := by
  have hl := h.1
  rw [List.length_append, List.length_singleton] at hl
  refine ⟨by omega, ?_⟩
  rcases h.2 with ⟨e, _⟩ | ⟨g', cap', cur, e, e2, e3, e4, e5, e6, e7⟩
  · cases e
  · cases e
    refine .inr ⟨g, cap, cur, rfl, e2, e3, by omega, e5, e6, ?_⟩
    have h2 : (xs ++ [x]).take n = xs := by
      rw [List.take_append_of_le_length (by omega), List.take_of_length_le (by omega)]
    rw [← e7, List.take_take, Nat.min_eq_left (by omega)] at h2
    rw [Nat.mul_one]
    exact h2

section
variable {w w' W W' : World} {gc ga go gi gp gm : Nat} {lk : Int} {arcs : Int → Option (Int × Int)} {ob ib : Int → Nat} {cls : Int → Option Nat} {row : Nat → List Int} {val : Nat → Value} {tg : Nat → Nat × Int} {pb cb : Nat → Prop} {fa fo fi : Int → Option Value} {Fo Fi : Int → Int → Option Value} {D : Int → Prop}
theorem CdM.belowB {B : Nat} (h : CdM W gc ga go gi gp gm lk fa fo fi ob ib Fo Fi D tg pb cb) (hB : ∀ k, cb k → k < B) (hb : Below B W W') : CdM W' gc ga go gi gp gm lk fa fo fi ob ib Fo Fi D tg pb cb :=
  ⟨h.hc.below hb (hB _ h.cc), h.ha.below hb (hB _ h.ca), h.ho.below hb (hB _ h.co), h.hi.below hb (hB _ h.ci), fun v hv => (h.oo v hv).below hb (hB _ (h.cob v hv)), fun v hv => (h.ii v hv).below hb (hB _ (h.cib v hv)), h.t, h.nc, h.na, h.no, h.ni, h.nob, h.nib, h.cc, h.ca, h.co, h.ci, h.cob, h.cib, h.cp, h.cgp, fun k hk => Nat.lt_of_lt_of_le (h.lt k hk) hb.size⟩
theorem kpt_of_belowB {B : Nat} (hb : Below B W W') : Kpt (fun k => B ≤ k) W W' := ⟨hb.os, hb.tape, hb.output, hb.size, fun k _ hn => hb.block k (by omega)⟩
theorem CdS.belowB {B : Nat} (h : CdS W gc ga go gi gp gm lk arcs ob ib cls row val tg pb cb) (hB : ∀ k, cb k → k < B) (hb : Below B W W') : CdS W' gc ga go gi gp gm lk arcs ob ib cls row val tg pb cb :=
  ⟨h.m.belowB hB hb, PtS.keep h.p (kpt_of_belowB hb) (fun e => by have := hB _ h.m.cgp; omega) (fun k hk e => by have := hB _ (h.m.cp k hk); omega), h.en, h.fin⟩

structure RcI (w : World) (gc ga go gi gp gm : Nat) (lk : Int) (arcs : Int → Option (Int × Int)) (ob ib : Int → Nat) (cls : Int → Option Nat) (row : Nat → List Int) (val : Nat → Value) (tg : Nat → Nat × Int) (pb cb : Nat → Prop) (N : Int → Int → Prop) (v : Int) (bs : Nat) (Dc D O : List Int) (v10 : Value) (W : World) : Prop where
  k : Kpt (· = gc) w W
  c : CdS W gc ga go gi gp gm (lk + D.length) arcs ob ib cls row val tg pb cb
  m : MQ W bs (seenF (D ++ O))
  r : W.ownsRow w.heap.size 3 1 v10 O.length (ints O)
  nd : (D ++ O).Nodup
  al : ∀ x ∈ D ++ O, Cl N v x
  cl : ∀ x ∈ Dc, ∀ y, N x y → y ∈ D ++ O
  iv : v ∈ D ++ O
variable {N : Int → Int → Prop} {v : Int} {bs : Nat} {Dc Dl O : List Int} {v10 : Value}
theorem RcI.pop {u : Int} {g n cap : Nat} (h : RcI w gc ga go gi gp gm lk arcs ob ib cls row val tg pb cb N v bs Dl Dl (O ++ [u]) (.slice (some ⟨g, 0, none⟩) (n + 1) cap) W) (hn : O.length = n) :
    RcI w gc ga go gi gp gm lk arcs ob ib cls row val tg pb cb N v bs Dl (Dl ++ [u]) O (.slice (some ⟨g, 0, none⟩) n cap) (W.setCell ⟨gc, 4, none⟩ (.int .i64 (lk + Dl.length + 1))) := by
  have hgc := h.c.m.lt gc h.c.m.cc
  refine ⟨h.k.set (fun _ => rfl) _, ?_, ?_, ?_, nodup_swap h.nd, fun x hx => h.al x (mem_app_swap.2 hx), fun x hx y hy => mem_app_swap.1 (h.cl x hx y hy), mem_app_swap.1 h.iv⟩
  · rw [List.length_append, List.length_singleton, show lk + ((Dl.length + 1 : Nat) : Int) = lk + Dl.length + 1 by omega]
    exact h.c.look _
  · rw [seenF_eq (fun x => mem_app_swap.symm)]
    exact h.m.off (h.m.ne h.c.m.hc)
  · have h1 := h.r
    rw [List.length_append, List.length_singleton, ints_app, hn] at h1
    have h2 := own_less h1
    rw [hn]
    exact ownsRow_setCell_other h2 (a := ⟨gc, 4, none⟩) (fun e => own_off h2 h.c.m.hc (by decide) e.symm) _
theorem RcI.close {u : Int} (h : RcI w gc ga go gi gp gm lk arcs ob ib cls row val tg pb cb N v bs Dc (Dc ++ [u]) O v10 W) (hu : ∀ y, N u y → y ∈ (Dc ++ [u]) ++ O) : RcI w gc ga go gi gp gm lk arcs ob ib cls row val tg pb cb N v bs (Dc ++ [u]) (Dc ++ [u]) O v10 W :=
  ⟨h.k, h.c, h.m, h.r, h.nd, h.al, fun x hx y hy => by
    rcases List.mem_append.1 hx with hx | hx
    · exact h.cl x hx y hy
    · obtain rfl : x = u := by simpa using hx
      exact hu y hy, h.iv⟩
theorem RcI.belowB (h : RcI w gc ga go gi gp gm lk arcs ob ib cls row val tg pb cb N v bs Dc Dl O v10 W) (hcb : ∀ k, cb k → k < w.heap.size) (hb : Below W.heap.size W W') : RcI w gc ga go gi gp gm lk arcs ob ib cls row val tg pb cb N v bs Dc Dl O v10 W' :=
  ⟨kpt_belowB h.k (hb.mono h.k.size), h.c.below hb, h.m.below hb h.m.lt, Lw.own_below h.r hb, h.nd, h.al, h.cl, h.iv⟩
theorem RcI.push (h : RcI w gc ga go gi gp gm lk arcs ob ib cls row val tg pb cb N v bs Dc Dl O v10 W) (hcb : ∀ k, cb k → k < w.heap.size) (hbs : w.heap.size ≤ bs) {u x : Int} (hu : u ∈ Dl ++ O) (hx : x ∉ Dl ++ O) (hN : N u x) {v' : Value} (hb : Below w.heap.size W W') (hm : MQ W' bs (seenF ((Dl ++ O) ++ [x]))) (ho : W'.ownsRow w.heap.size 3 1 v' (O.length + 1) (ints O ++ [.int .i64 x])) :
    RcI w gc ga go gi gp gm lk arcs ob ib cls row val tg pb cb N v bs Dc Dl (O ++ [x]) v' W' := by
  refine ⟨kpt_belowB h.k hb, h.c.belowB hcb hb, by rw [← List.append_assoc]; exact hm, by rw [List.length_append, ints_app]; exact ho, ?_, fun y hy => ?_, fun y hy z hz => ?_, ?_⟩
  · rw [← List.append_assoc, List.nodup_append]
    exact ⟨h.nd, by simp, fun a ha b hb e => by simp at hb; subst hb; subst e; exact hx ha⟩
  · rw [← List.append_assoc, List.mem_append] at hy
    rcases hy with hy | hy
    · exact h.al y hy
    · obtain rfl : y = x := by simpa using hy
      exact .step (h.al u hu) hN
  · have := h.cl y hy z hz
    rw [← List.append_assoc]
    exact List.mem_append_left _ this
  · rw [← List.append_assoc]
    exact List.mem_append_left _ h.iv
theorem RcI.fin (h : RcI w gc ga go gi gp gm lk arcs ob ib cls row val tg pb cb N v bs Dl Dl [] v10 W) (x : Int) : x ∈ Dl ↔ Cl N v x := by
  constructor
  · exact fun hx => h.al x (by simp [hx])
  · intro hx
    induction hx with
    | base => simpa using h.iv
    | step _ hn ih => simpa using h.cl _ ih _ hn
end
end Go.Proofs.Ythomnpgpbhpojaa.Cd
