/- cond: AddVertex. -/
import Derived.Test.YthomnpgpbhpojaaPo5
import Derived.Test.YthomnpgpbhpojaaPo12
namespace Go.Proofs.Ythomnpgpbhpojaa.Cd
open Go Go.RowKit Go.Proofs.Ythomnpgpbhpojaa.Mem Go.Proofs.Ythomnpgpbhpojaa.Sl Go.Proofs.Ythomnpgpbhpojaa.Lw Go.Proofs.Ythomnpgpbhpojaa.Pt Go.Proofs.YthomnpgpbhpojaaW.PrintWords Go.Proofs.YthomnpgpbhpojaaW.PrintLast
attribute [local go_sem ↓] Go.wp_at_zero Go.wp_at_succ
set_option linter.unusedSimpArgs false
set_option linter.unusedVariables false

section
variable {w w' W W' w1 : World} {gc ga go gi gp gm : Nat} {lk : Int} {arcs : Int → Option (Int × Int)} {ob ib : Int → Nat} {cls : Int → Option Nat} {row : Nat → List Int} {val : Nat → Value} {tg : Nat → Nat × Int} {pb cb : Nat → Prop} {fa fo fi : Int → Option Value} {Fo Fi : Int → Int → Option Value} {D : Int → Prop}
theorem ext_not {p : Nat → Prop} {k : Nat} (h : ¬ p k) (hl : k < w.heap.size) : ¬ ext p w w' k := by
  rintro (e | ⟨e, _⟩)
  · exact h e
  · omega
theorem CdM.part (h : CdM w gc ga go gi gp gm lk fa fo fi ob ib Fo Fi D tg pb cb) (hk : Kpt pb w w') : CdM w' gc ga go gi gp gm lk fa fo fi ob ib Fo Fi D tg (ext pb w w') (ext cb w w') :=
  ⟨h.hc.kept hk h.nc, h.ha.move (hk.block _ h.ha.lt h.na), h.ho.move (hk.block _ h.ho.lt h.no), h.hi.move (hk.block _ h.hi.lt h.ni), fun v hv => (h.oo v hv).move (hk.block _ (h.oo v hv).lt (h.nob v hv)), fun v hv => (h.ii v hv).move (hk.block _ (h.ii v hv).lt (h.nib v hv)), h.t,
    ext_not h.nc h.hc.lt, ext_not h.na h.ha.lt, ext_not h.no h.ho.lt, ext_not h.ni h.hi.lt, fun v hv => ext_not (h.nob v hv) (h.oo v hv).lt, fun v hv => ext_not (h.nib v hv) (h.ii v hv).lt, .inl h.cc, .inl h.ca, .inl h.co, .inl h.ci, fun v hv => .inl (h.cob v hv), fun v hv => .inl (h.cib v hv), fun k hk' => hk'.imp (h.cp k) id, .inl h.cgp, fun k hk' => by
      have := hk.size
      rcases hk' with e | ⟨_, e⟩
      · have := h.lt k e; omega
      · exact e⟩

structure AVs (w1 : World) (go gi : Nat) (fo fi : Int → Option Value) (W : World) : Prop where
  k : Kpt (fun k => k = go ∨ k = gi) w1 W
  o : MQ W go fo
  i : MQ W gi fi
  ne : go ≠ gi
theorem AVs.al (h : AVs w1 go gi fo fi W) (o : Obj) : AVs w1 go gi fo fi (W.alloc o) := ⟨h.k.alloc o, h.o.al, h.i.al, h.ne⟩
theorem AVs.entO (h : AVs w1 go gi fo fi W) (v : Int) : ∃ (st : Nat) (o : Obj), (Instr.mapEntry 54 (.map (some go)) (.int .i64 v)).run Try.prog W = .ok (.tuple #[(fo v).getD (.map none), .int .i64 (st : Int)]) (putObj W go o) ∧
    AVs w1 go gi (updV fo v (some ((fo v).getD (.map none)))) fi (putObj W go o) ∧ MS (putObj W go o) go (updV fo v (some ((fo v).getD (.map none)))) v st := by
  obtain ⟨st, o, hr, hms⟩ := h.o.entry (P := Try.prog) (T := 54) Try.underlying54 Try.underlying3 zero_map v
  exact ⟨st, o, hr, ⟨kpt_put h.k (fun _ => .inl rfl) o, hms.mq, h.i.move (putObj_far h.ne.symm), h.ne⟩, hms⟩
theorem AVs.stO (h : AVs w1 go gi fo fi W) {v : Int} {st : Nat} (hs : MS W go fo v st) (u : Value) : ∃ (o : Obj), (Instr.entryStore 54 (.map (some go)) (.int .i64 (st : Int)) u).run Try.prog W = .ok () (putObj W go o) ∧ AVs w1 go gi (updV fo v (some u)) fi (putObj W go o) := by
  obtain ⟨o, hr, hm⟩ := hs.store (P := Try.prog) (T := 54) u
  exact ⟨o, hr, kpt_put h.k (fun _ => .inl rfl) o, hm, h.i.move (putObj_far h.ne.symm), h.ne⟩
theorem AVs.swap (h : AVs w1 go gi fo fi W) : AVs w1 gi go fi fo W := ⟨h.k.mono (fun k _ e => e.symm), h.i, h.o, h.ne.symm⟩
theorem MQ.put2 {b g : Nat} {f : Int → Option Value} (h : MQ W b f) (hne : b ≠ g) (o : Obj) : MQ (putObj W g o) b f := h.move (putObj_far hne)
theorem mq_put3 {b g n : Nat} {f : Int → Option Value} (h : MQ W b f ∧ n ≤ b) (hg : g < n) (o : Obj) : MQ (putObj W g o) b f ∧ n ≤ b := ⟨MQ.put2 h.1 (by have := h.2; omega) o, h.2⟩

def tb12_3.T3 : Bool × List (List Nat × List Nat) := (true, [([], []), ([0], [0]), ([1], [1]), ([2], [2]), ([], []), ([], []), ([5], [5]), ([6], [6]), ([7], [7]), ([], []), ([], []), ([], []), ([3, 4, 8], [3, 4]), ([12], [12]), ([3, 13, 10, 12, 0, 1, 2, 3, 4, 8, 10, 12], [3, 10, 13]), ([8, 9, 14, 0, 1, 2, 3, 4, 8, 10, 12, 13, 14], [8, 9]), ([15], [15]), ([8, 16, 11, 15, 0, 1, 2, 3, 4, 5, 6, 7, 8, 9, 10, 11, 12, 13, 14, 15], [8, 11, 16])])
def tb12_3.B3 : List Nat := [0, 1, 3, 7, 0, 0, 32, 96, 224, 0, 0, 0, 511, 4607, 13823, 30719, 63487, 131071]
theorem tb12_3.tab3 : rtab .any (opsOf Try.f12 3) = tb12_3.T3 := by kernel_rfl
theorem tb12_3.bits3 : waitsOk tb12_3.T3.2 tb12_3.B3 = true := by kernel_rfl
theorem updV_twice (f : Int → Option Value) (v : Int) (a b : Option Value) : updV (updV f v a) v b = updV f v b := by
  funext x
  unfold updV
  by_cases e : x = v
  · rw [if_pos e, if_pos e]
  · rw [if_neg e, if_neg e, if_neg e]
theorem ms_al {b : Nat} {f : Int → Option Value} {k : Int} {st : Nat} (h : MS W b f k st) (o : Obj) : MS (W.alloc o) b f k st := h.move (Below.heap_alloc W o b h.mq.lt)
theorem mq_new3 {n m : Nat} (h : AVs w1 go gi fo fi W) (e : W.heap.size = n) (hle : m ≤ n) : MQ (W.alloc (.map #[] 0)) n (fun _ => none) ∧ m ≤ n := ⟨e ▸ MQ.new W, hle⟩
theorem sz_al {n : Nat} (e : W.heap.size = n) (o : Obj) : (W.alloc o).heap.size = n + 1 := by rw [← e]; simp
theorem sz_put {n : Nat} (e : W.heap.size = n) (g : Nat) (o : Obj) : (putObj W g o).heap.size = n := by rw [putObj_size, e]
set_option maxHeartbeats 4000000 in
theorem addv_no (h : CdS w gc ga go gi gp gm lk arcs ob ib cls row val tg pb cb) (v : Int) (hv : cls v ≠ none) :
    Calls Try.prog 12 #[.pointer (some ⟨gc, 0, none⟩), .int .i64 v] w fun e w' => e = .returned (.bool false) ∧ w' = w := by
  have q3 := h.m.hc.cell 3 rfl
  have HC := Lib.hid (add_no h.p v hv)
  clear h hv
  go_enter Try.func12, Try.ntmps12
  go_wp2_with fail
  refine HC.out.mono ?_
  clear HC
  rintro e w1 ⟨rfl, rfl⟩
  go_wp2
  go_ret
  exact ⟨rfl, rfl⟩
def NewV (cls cls' : Int → Option Nat) (v : Int) : Prop := (∀ x, x ≠ v → cls' x = cls x) ∧ ∃ b, cls' v = some b ∧ ∀ x, x ≠ v → cls x ≠ some b
theorem vtF_upd {cls : Int → Option Nat} {ob : Int → Nat} {v : Int} {b b1 : Nat} : vtF (fun x => if x = v then some b else cls x) (fun x => if x = v then b1 else ob x) = updV (vtF cls ob) v (some (.map (some b1))) := by
  funext x
  unfold vtF updV
  by_cases e : x = v
  · simp [e]
  · simp [e]
theorem tgne {tg : Nat → Nat × Int} {a b : Nat} {x y : Nat × Int} (h1 : tg a = x) (h2 : tg b = y) (hne : x ≠ y) : a ≠ b := fun e => hne (h1.symm.trans ((congrArg tg e).trans h2))
theorem ouF_nil {arcs : Int → Option (Int × Int)} {v : Int} (h : ∀ e p, arcs e = some p → p.1 ≠ v) : ouF arcs v = fun _ => none := by
  funext e
  cases hx : ouF arcs v e with
  | none => rfl
  | some x =>
    obtain ⟨y, h1, _⟩ := ouF_iff.1 hx
    exact absurd rfl (h e _ h1)
theorem inF_nil {arcs : Int → Option (Int × Int)} {v : Int} (h : ∀ e p, arcs e = some p → p.2 ≠ v) : inF arcs v = fun _ => none := by
  funext e
  cases hx : inF arcs v e with
  | none => rfl
  | some x =>
    obtain ⟨y, h1, _⟩ := inF_iff.1 hx
    exact absurd rfl (h e _ h1)
theorem addv_end {b1 b2 b0 : Nat} {row' : Nat → List Int} {val' : Nat → Value} {v : Int} (h : CdS w gc ga go gi gp gm lk arcs ob ib cls row val tg pb cb) (hv : cls v = none)
    (hm1 : CdM w1 gc ga go gi gp gm lk (arF arcs) (vtF cls ob) (vtF cls ib) ob ib (ouF arcs) (inF arcs) (fun v => cls v ≠ none) tg (ext pb w w1) (ext cb w w1))
    (hP1 : PtS w1 gp gm (fun x => if x = v then some b0 else cls x) row' val' (ext pb w w1)) (hk1 : Kpt pb w w1) (hb0 : w.heap.size ≤ b0)
    (hA : AVs w1 go gi (updV (vtF cls ob) v (some (.map (some b1)))) (updV (vtF cls ib) v (some (.map (some b2)))) W)
    (m1 : MQ W b1 fun _ => none) (m2 : MQ W b2 fun _ => none) (l1 : w1.heap.size ≤ b1) (l2 : w1.heap.size ≤ b2) (l3 : b1 ≠ b2)
    (hat : At W gc [.map (some ga), .map (some go), .map (some gi), .pointer (some ⟨gp, 0, none⟩), .int .i64 lk] 58) :
    Kpt cb w W ∧ ∃ ob' ib' cls' row' val' tg' pb', NewV cls cls' v ∧ CdS W gc ga go gi gp gm lk arcs ob' ib' cls' row' val' tg' pb' (ext cb w W) := by
  have hsz := hk1.size
  have hsz2 := hA.k.size
  have hD : ∀ x, (if x = v then some b0 else cls x) ≠ none → x = v ∨ (x ≠ v ∧ cls x ≠ none) := fun x hx => by
    by_cases e : x = v
    · exact .inl e
    · rw [if_neg e] at hx
      exact .inr ⟨e, hx⟩
  have hlo : ∀ x, cls x ≠ none → ob x < w.heap.size := fun x hx => (h.m.oo x hx).lt
  have hli : ∀ x, cls x ≠ none → ib x < w.heap.size := fun x hx => (h.m.ii x hx).lt
  have htg : ∀ k, k < w.heap.size → (if k = b1 then ((4, v) : Nat × Int) else if k = b2 then (5, v) else tg k) = tg k := fun k hk => by
    rw [if_neg (by omega), if_neg (by omega)]
  have hout : ∀ k, k < w1.heap.size → k ≠ go → k ≠ gi → W.heap[k]? = w1.heap[k]? := fun k hk h1 h2 => hA.k.block k hk (fun e => e.elim h1 h2)
  have hoT : ∀ x, cls x ≠ none → ob x ≠ go ∧ ob x ≠ gi ∧ ib x ≠ go ∧ ib x ≠ gi := fun x hx =>
    ⟨tgne (h.m.t.ob x hx) h.m.t.o (by simp), tgne (h.m.t.ob x hx) h.m.t.i (by simp), tgne (h.m.t.ib x hx) h.m.t.o (by simp), tgne (h.m.t.ib x hx) h.m.t.i (by simp)⟩
  have haT : ga ≠ go ∧ ga ≠ gi := ⟨tgne h.m.t.a h.m.t.o (by simp), tgne h.m.t.a h.m.t.i (by simp)⟩
  have hkW : Kpt cb w W := (hk1.mono fun k _ => h.m.cp k).trans' hA.k fun k _ e => e.elim (fun e => e ▸ h.m.co) (fun e => e ▸ h.m.ci)
  refine ⟨hkW, fun x => if x = v then b1 else ob x, fun x => if x = v then b2 else ib x, _, row', val', fun k => if k = b1 then (4, v) else if k = b2 then (5, v) else tg k, _, ⟨fun x hx => if_neg hx, b0, if_pos rfl, fun x _ e => ?_⟩, ⟨?_, PtS.keep hP1 hA.k (fun e => e.elim (fun e => ?_) (fun e => ?_)) (fun k hk e => e.elim (fun e => ?_) (fun e => ?_)), fun e p hp => ?_, h.fin⟩⟩
  · have := h.p.r.lt b0 (h.p.r.hb x b0 e).2.2.1
    omega
  · rw [vtF_upd, vtF_upd]
    refine ⟨hat, hm1.ha.move (hout _ hm1.ha.lt haT.1 haT.2), hA.o, hA.i, fun x hx => ?_, fun x hx => ?_, ⟨(htg _ h.m.ha.lt).trans h.m.t.a, (htg _ h.m.ho.lt).trans h.m.t.o, (htg _ h.m.hi.lt).trans h.m.t.i, (htg _ h.p.hm.lt).trans h.m.t.m, fun x hx => ?_, fun x hx => ?_⟩, hm1.nc, hm1.na, hm1.no, hm1.ni, fun x hx => ?_, fun x hx => ?_, .inl h.m.cc, .inl h.m.ca, .inl h.m.co, .inl h.m.ci, fun x hx => ?_, fun x hx => ?_, fun k hk => ?_, .inl h.m.cgp, fun k hk => ?_⟩
    · rcases hD x hx with rfl | ⟨e, hx⟩
      · rw [if_pos rfl, ouF_nil fun e p hp hh => (h.en e p hp).1 (hh ▸ hv)]
        exact m1
      · rw [if_neg e]
        exact (hm1.oo x hx).move (hout _ (hm1.oo x hx).lt (hoT x hx).1 (hoT x hx).2.1)
    · rcases hD x hx with rfl | ⟨e, hx⟩
      · rw [if_pos rfl, inF_nil fun e p hp hh => (h.en e p hp).2 (hh ▸ hv)]
        exact m2
      · rw [if_neg e]
        exact (hm1.ii x hx).move (hout _ (hm1.ii x hx).lt (hoT x hx).2.2.1 (hoT x hx).2.2.2)
    · rcases hD x hx with rfl | ⟨e, hx⟩
      · simp
      · have := hlo x hx
        rw [if_neg e]
        exact (htg _ this).trans (h.m.t.ob x hx)
    · rcases hD x hx with rfl | ⟨e, hx⟩
      · simp [l3.symm]
      · have := hli x hx
        rw [if_neg e]
        exact (htg _ this).trans (h.m.t.ib x hx)
    · rcases hD x hx with rfl | ⟨e, hx⟩
      · rw [if_pos rfl]
        intro e
        have := hm1.lt b1 (hm1.cp _ e)
        omega
      · rw [if_neg e]
        exact hm1.nob x hx
    · rcases hD x hx with rfl | ⟨e, hx⟩
      · rw [if_pos rfl]
        intro e
        have := hm1.lt b2 (hm1.cp _ e)
        omega
      · rw [if_neg e]
        exact hm1.nib x hx
    · rcases hD x hx with rfl | ⟨e, hx⟩
      · rw [if_pos rfl]
        exact .inr ⟨by omega, m1.lt⟩
      · rw [if_neg e]
        exact .inl (h.m.cob x hx)
    · rcases hD x hx with rfl | ⟨e, hx⟩
      · rw [if_pos rfl]
        exact .inr ⟨by omega, m2.lt⟩
      · rw [if_neg e]
        exact .inl (h.m.cib x hx)
    · exact (hm1.cp k hk).imp id fun ⟨a, b⟩ => ⟨a, by omega⟩
    · rcases hk with e | ⟨_, e⟩
      · have := h.m.lt k e
        omega
      · exact e
  · exact h.m.ho.ne h.p.hp e
  · exact h.m.hi.ne h.p.hp e
  · exact hm1.no (e ▸ hk)
  · exact hm1.ni (e ▸ hk)
  · have hx := h.en e p hp
    have h1 : p.1 ≠ v := fun e1 => hx.1 (e1 ▸ hv)
    have h2 : p.2 ≠ v := fun e1 => hx.2 (e1 ▸ hv)
    rw [if_neg h1, if_neg h2]
    exact hx
set_option maxHeartbeats 16000000 in
set_option maxRecDepth 100000 in
theorem addv_calls (h : CdS w gc ga go gi gp gm lk arcs ob ib cls row val tg pb cb) (v : Int) (hv : cls v = none) :
    Calls Try.prog 12 #[.pointer (some ⟨gc, 0, none⟩), .int .i64 v] w fun e w' => e = .returned (.bool true) ∧ Kpt cb w w' ∧
      ∃ ob' ib' cls' row' val' tg' pb', NewV cls cls' v ∧ CdS w' gc ga go gi gp gm lk arcs ob' ib' cls' row' val' tg' pb' (ext cb w w') := by
  have q3 := h.m.hc.cell 3 rfl
  have HC := Lib.hid (add_calls h.p v hv)
  have HX := Lib.hid (And.intro h hv)
  clear h hv
  go_enter Try.func12, Try.ntmps12
  go_wp2_with fail
  refine HC.out.mono ?_
  clear HC q3
  rintro e w1 ⟨rfl, hk1, hP1⟩
  obtain ⟨h, hv⟩ := HX.out
  have hm1 := h.m.part hk1
  have hat := hm1.hc
  have hgo : go ≠ gi := fun e => by
    have := congrArg tg e
    rw [h.m.t.o, h.m.t.i] at this
    cases this
  have hA0 : AVs w1 go gi (vtF cls ob) (vtF cls ib) w1.drew := ⟨(Kpt.refl _ _).drew, hm1.ho, hm1.hi, hgo⟩
  have HA := Lib.hid hA0
  have HFO := Lib.hid (show (vtF cls ob v).getD (.map none) = .map none by simp [vtF, hv])
  have HFI := Lib.hid (show (vtF cls ib v).getD (.map none) = .map none by simp [vtF, hv])
  have HNE := Lib.hid (And.intro (hm1.ho.ne hat) (And.intro (hm1.hi.ne hat) (And.intro hm1.ho.lt hm1.hi.lt)))
  have H1 := Lib.hid (And.intro hm1 (And.intro hP1 hk1))
  obtain ⟨fo, hfo⟩ : ∃ fo, vtF cls ob = fo := ⟨_, rfl⟩
  obtain ⟨fi, hfi⟩ : ∃ fi, vtF cls ib = fi := ⟨_, rfl⟩
  rw [hfo] at HA HFO
  rw [hfi] at HA HFI
  have HF := Lib.hid (And.intro hfo hfi)
  have HAT := Lib.hid (show At w1.drew gc [.map (some ga), .map (some go), .map (some gi), .pointer (some ⟨gp, 0, none⟩), .int .i64 lk] 58 from hat)
  have HS0 := Lib.hid (show w1.heap.size ≤ w1.drew.heap.size from Nat.le_refl _)
  have hmk := run_mkA
  have hps := @putObj_size
  have q1 := hat.cell 1 rfl
  have q2 := hat.cell 2 rfl
  clear h hv hm1 hat hgo hA0 hk1 hP1 hfo hfi
  go_upto_region 3 with (fail)
  refine start_ (n := 18) (S := fun w' => w'.cell? ⟨gc, 1, none⟩ = some (.map (some go)) ∧ w'.cell? ⟨gc, 2, none⟩ = some (.map (some gi))) (ds := [17]) (bA 18 0) (by kernel_rfl) rfl rfl ⟨q1, q2⟩ (fun hHeld => ?_)
  revert hHeld HA HAT HS0
  generalize w1.drew = wd
  intro HA HAT HS0 hHeld
  have HSZ := Lib.hid (show wd.heap.size = wd.heap.size + 0 from rfl)
  refine with_tabW tb12_3.tab3 tb12_3.bits3 (fun HT_ HW_ => ?_)
  refine pw_ 0 12 (bA 18 1) HT_.out ?_
  refine pw_ 1 13 (bA 18 3) HT_.out ?_
  refine pw_ 2 14 (bA 18 7) HT_.out ?_
  refine pw_ 4 16 (bA 18 23) HT_.out ?_
  refine pw_ 5 17 (bA 18 55) HT_.out ?_
  refine pw_ 6 18 (bA 18 119) HT_.out ?_
  refine pw_ 7 19 (bA 18 247) HT_.out ?_
  refine pw_ 9 21 (bA 18 759) HT_.out ?_
  refine tw_ 3 15 (bA 18 767) HT_.out HW_.out hHeld (hv := by rintro w' ⟨s0, s1⟩; go_simp; with_reducible rfl) (h := ?_)
  refine tw_ 8 20 (bA 18 1023) HT_.out HW_.out hHeld (hv := by rintro w' ⟨s0, s1⟩; go_simp; with_reducible rfl) (h := ?_)
  refine join_ (σ := Value × Value × Value × Value × Value × Value) 1 (bA 18 131071) (fun s => [(22, s.1), (23, s.2.1), (24, s.2.2.1), (25, s.2.2.2.1), (26, s.2.2.2.2.1), (27, s.2.2.2.2.2)]) (fun s w' => ∃ b1 b2 st, s.1 = .map (some b1) ∧ s.2.1 = .map (some b2) ∧ s.2.2.2.2.2 = .int .i64 ((st : Nat) : Int) ∧ AVs w1 go gi (updV fo v (some (.map (some b1)))) (updV fi v (some (.map none))) w' ∧ MS w' gi (updV fi v (some (.map none))) v st ∧ MQ w' b1 (fun _ => none) ∧ MQ w' b2 (fun _ => none) ∧ w1.heap.size ≤ b1 ∧ w1.heap.size ≤ b2 ∧ b1 ≠ b2 ∧ At w' gc [.map (some ga), .map (some go), .map (some gi), .pointer (some ⟨gp, 0, none⟩), .int .i64 lk] 58) ?_ ?_
  rotate_left
  · intro hCont
    refine three_ (i := 10) (j := 11) (k := 12) (Ni := some 22) (Nj := some 23) (Nk := some 24) (bA 18 2047) (bA 18 3071) (bA 18 5119) rfl rfl rfl rfl rfl rfl (three_of HT_.out (by kernel_rfl)) (by decide) (by decide) (by decide) (fun K hK => ?_) (fun K hK => ?_) (fun K hK => ?_)
    · skip
      refine value_ (w1 := ?_) (v := ?_) (by rfl) rfl ?_ ?_
      rotate_left 2
      · go_simp
        constructor
        · rfl
        · rfl
      have HB1 := Lib.hid (mq_new3 HA.out HSZ.out (Nat.le_trans HS0.out (by omega)))
      have HSZ := Lib.hid (sz_al HSZ.out (.map #[] 0))
      have HA := Lib.hid (HA.out.al (.map #[] 0))
      have HAT := Lib.hid (HAT.out.al (o := .map #[] 0))
      refine hK.out _ _ ⟨(HAT.out.cell 1 rfl), (HAT.out.cell 2 rfl)⟩ (fun hHeld => ?_)
      clear hK K
      refine norm_ (a' := ?_) ?_ ?_
      rotate_left
      · show Act.put _ (some 22) _ = _
        simp only [Act.put, pA, pB, pC, pD, pE]; rfl
      refine two_ (i := 11) (j := 12) (Ni := some 23) (Nj := some 24) (bA 18 4095) (bA 18 6143) rfl rfl rfl rfl (two_of HT_.out (by kernel_rfl)) (by decide) (by decide) (fun K hK => ?_) (fun K hK => ?_)
      · skip
        refine value_ (w1 := ?_) (v := ?_) (by rfl) rfl ?_ ?_
        rotate_left 2
        · go_simp
          constructor
          · rfl
          · rfl
        have HB2 := Lib.hid (mq_new3 HA.out HSZ.out (Nat.le_trans HS0.out (by omega)))
        have HB1 := Lib.hid (And.intro (HB1.out.1.al (o := .map #[] 0)) HB1.out.2)
        have HSZ := Lib.hid (sz_al HSZ.out (.map #[] 0))
        have HA := Lib.hid (HA.out.al (.map #[] 0))
        have HAT := Lib.hid (HAT.out.al (o := .map #[] 0))
        refine hK.out _ _ ⟨(HAT.out.cell 1 rfl), (HAT.out.cell 2 rfl)⟩ (fun hHeld => ?_)
        clear hK K
        refine norm_ (a' := ?_) ?_ ?_
        rotate_left
        · show Act.put _ (some 23) _ = _
          simp only [Act.put, pA, pB, pC, pD, pE]; rfl
        refine one_ (i := 12) (N := some 24) (bA 18 8191) rfl rfl (one_of HT_.out (by kernel_rfl)) (by decide) (fun K hK => ?_)
        obtain ⟨st1, o1, hr1, ha1, hs1⟩ := HA.out.entO v
        rw [HFO.out] at hr1 ha1 hs1
        refine value_ (w1 := ?_) (v := ?_) (by rfl) rfl ?_ ?_
        rotate_left 2
        · go_simp
          constructor
          · rfl
          · rfl
        have HA := Lib.hid ha1
        have HM1 := Lib.hid hs1
        have HAT := Lib.hid (HAT.out.putObj (o := o1) HNE.out.1)
        have HSZ := Lib.hid (sz_put HSZ.out go o1)
        have HB1 := Lib.hid (mq_put3 HB1.out HNE.out.2.2.1 o1)
        have HB2 := Lib.hid (mq_put3 HB2.out HNE.out.2.2.1 o1)
        clear hr1 ha1 hs1
        refine hK.out _ _ ⟨(HAT.out.cell 1 rfl), (HAT.out.cell 2 rfl)⟩ (fun hHeld => ?_)
        clear hK K
        refine norm_ (a' := ?_) ?_ ?_
        rotate_left
        · show Act.put _ (some 24) _ = _
          simp only [Act.put, pA, pB, pC, pD, pE]; rfl
        refine pw_ 13 25 (bA 18 16383) HT_.out ?_
        refine one_ (i := 14) (N := none) (bA 18 32767) rfl rfl (one_of HT_.out (by kernel_rfl)) (by decide) (fun K hK => ?_)
        obtain ⟨o2, hr2, ha2⟩ := HA.out.stO HM1.out (.map (some wd.heap.size))
        rw [updV_twice] at ha2
        refine skip_ (w1 := ?_) (by rfl) rfl ?_ ?_
        rotate_left; · go_simp; rfl
        have HA := Lib.hid ha2
        have HAT := Lib.hid (HAT.out.putObj (o := o2) HNE.out.1)
        have HSZ := Lib.hid (sz_put HSZ.out go o2)
        have HB1 := Lib.hid (mq_put3 HB1.out HNE.out.2.2.1 o2)
        have HB2 := Lib.hid (mq_put3 HB2.out HNE.out.2.2.1 o2)
        clear hr2 ha2 HM1
        refine hK.out _ _ ⟨(HAT.out.cell 1 rfl), (HAT.out.cell 2 rfl)⟩ (fun hHeld => ?_)
        clear hK K
        refine one_ (i := 15) (N := some 26) (bA 18 65535) rfl rfl (one_of HT_.out (by kernel_rfl)) (by decide) (fun K hK => ?_)
        obtain ⟨st2, o3, hr3, ha3, hs3⟩ := HA.out.swap.entO v
        rw [HFI.out] at hr3 ha3 hs3
        refine value_ (w1 := ?_) (v := ?_) (by rfl) rfl ?_ ?_
        rotate_left 2
        · go_simp
          constructor
          · rfl
          · rfl
        have HA := Lib.hid ha3.swap
        have HM2 := Lib.hid hs3
        have HAT := Lib.hid (HAT.out.putObj (o := o3) HNE.out.2.1)
        have HSZ := Lib.hid (sz_put HSZ.out gi o3)
        have HB1 := Lib.hid (mq_put3 HB1.out HNE.out.2.2.2 o3)
        have HB2 := Lib.hid (mq_put3 HB2.out HNE.out.2.2.2 o3)
        clear hr3 ha3 hs3
        refine hK.out _ _ ⟨(HAT.out.cell 1 rfl), (HAT.out.cell 2 rfl)⟩ (fun hHeld => ?_)
        clear hK K
        refine norm_ (a' := ?_) ?_ ?_
        rotate_left
        · show Act.put _ (some 26) _ = _
          simp only [Act.put, pA, pB, pC, pD, pE]; rfl
        refine pw_ 16 27 (bA 18 131071) HT_.out ?_
        exact norm_ (by simp only [putAll, Act.put, List.setIfInBounds_toArray, List.set_cons_zero, List.set_cons_succ]) (hCont (.map (some wd.heap.size), .map (some (wd.heap.size + 1)), .tuple #[.map none, .int .i64 (st1 : Int)], .int .i64 (st1 : Int), .tuple #[.map none, .int .i64 (st2 : Int)], .int .i64 (st2 : Int)) _ ⟨_, _, st2, rfl, rfl, rfl, HA.out, HM2.out, HB1.out.1, HB2.out.1, HB1.out.2, HB2.out.2, by omega, HAT.out⟩)
      · skip
        obtain ⟨st1, o1, hr1, ha1, hs1⟩ := HA.out.entO v
        rw [HFO.out] at hr1 ha1 hs1
        refine value_ (w1 := ?_) (v := ?_) (by rfl) rfl ?_ ?_
        rotate_left 2
        · go_simp
          constructor
          · rfl
          · rfl
        have HA := Lib.hid ha1
        have HM1 := Lib.hid hs1
        have HAT := Lib.hid (HAT.out.putObj (o := o1) HNE.out.1)
        have HSZ := Lib.hid (sz_put HSZ.out go o1)
        have HB1 := Lib.hid (mq_put3 HB1.out HNE.out.2.2.1 o1)
        clear hr1 ha1 hs1
        refine hK.out _ _ ⟨(HAT.out.cell 1 rfl), (HAT.out.cell 2 rfl)⟩ (fun hHeld => ?_)
        clear hK K
        refine norm_ (a' := ?_) ?_ ?_
        rotate_left
        · show Act.put _ (some 24) _ = _
          simp only [Act.put, pA, pB, pC, pD, pE]; rfl
        refine pw_ 13 25 (bA 18 14335) HT_.out ?_
        refine two_ (i := 11) (j := 14) (Ni := some 23) (Nj := none) (bA 18 16383) (bA 18 30719) rfl rfl rfl rfl (two_of HT_.out (by kernel_rfl)) (by decide) (by decide) (fun K hK => ?_) (fun K hK => ?_)
        · skip
          refine value_ (w1 := ?_) (v := ?_) (by rfl) rfl ?_ ?_
          rotate_left 2
          · go_simp
            constructor
            · rfl
            · rfl
          have HB2 := Lib.hid (mq_new3 HA.out HSZ.out (Nat.le_trans HS0.out (by omega)))
          have HB1 := Lib.hid (And.intro (HB1.out.1.al (o := .map #[] 0)) HB1.out.2)
          have HM1 := Lib.hid (ms_al HM1.out (.map #[] 0))
          have HSZ := Lib.hid (sz_al HSZ.out (.map #[] 0))
          have HA := Lib.hid (HA.out.al (.map #[] 0))
          have HAT := Lib.hid (HAT.out.al (o := .map #[] 0))
          refine hK.out _ _ ⟨(HAT.out.cell 1 rfl), (HAT.out.cell 2 rfl)⟩ (fun hHeld => ?_)
          clear hK K
          refine norm_ (a' := ?_) ?_ ?_
          rotate_left
          · show Act.put _ (some 23) _ = _
            simp only [Act.put, pA, pB, pC, pD, pE]; rfl
          refine one_ (i := 14) (N := none) (bA 18 32767) rfl rfl (one_of HT_.out (by kernel_rfl)) (by decide) (fun K hK => ?_)
          obtain ⟨o2, hr2, ha2⟩ := HA.out.stO HM1.out (.map (some wd.heap.size))
          rw [updV_twice] at ha2
          refine skip_ (w1 := ?_) (by rfl) rfl ?_ ?_
          rotate_left; · go_simp; rfl
          have HA := Lib.hid ha2
          have HAT := Lib.hid (HAT.out.putObj (o := o2) HNE.out.1)
          have HSZ := Lib.hid (sz_put HSZ.out go o2)
          have HB1 := Lib.hid (mq_put3 HB1.out HNE.out.2.2.1 o2)
          have HB2 := Lib.hid (mq_put3 HB2.out HNE.out.2.2.1 o2)
          clear hr2 ha2 HM1
          refine hK.out _ _ ⟨(HAT.out.cell 1 rfl), (HAT.out.cell 2 rfl)⟩ (fun hHeld => ?_)
          clear hK K
          refine one_ (i := 15) (N := some 26) (bA 18 65535) rfl rfl (one_of HT_.out (by kernel_rfl)) (by decide) (fun K hK => ?_)
          obtain ⟨st2, o3, hr3, ha3, hs3⟩ := HA.out.swap.entO v
          rw [HFI.out] at hr3 ha3 hs3
          refine value_ (w1 := ?_) (v := ?_) (by rfl) rfl ?_ ?_
          rotate_left 2
          · go_simp
            constructor
            · rfl
            · rfl
          have HA := Lib.hid ha3.swap
          have HM2 := Lib.hid hs3
          have HAT := Lib.hid (HAT.out.putObj (o := o3) HNE.out.2.1)
          have HSZ := Lib.hid (sz_put HSZ.out gi o3)
          have HB1 := Lib.hid (mq_put3 HB1.out HNE.out.2.2.2 o3)
          have HB2 := Lib.hid (mq_put3 HB2.out HNE.out.2.2.2 o3)
          clear hr3 ha3 hs3
          refine hK.out _ _ ⟨(HAT.out.cell 1 rfl), (HAT.out.cell 2 rfl)⟩ (fun hHeld => ?_)
          clear hK K
          refine norm_ (a' := ?_) ?_ ?_
          rotate_left
          · show Act.put _ (some 26) _ = _
            simp only [Act.put, pA, pB, pC, pD, pE]; rfl
          refine pw_ 16 27 (bA 18 131071) HT_.out ?_
          exact norm_ (by simp only [putAll, Act.put, List.setIfInBounds_toArray, List.set_cons_zero, List.set_cons_succ]) (hCont (.map (some wd.heap.size), .map (some (wd.heap.size + 1)), .tuple #[.map none, .int .i64 (st1 : Int)], .int .i64 (st1 : Int), .tuple #[.map none, .int .i64 (st2 : Int)], .int .i64 (st2 : Int)) _ ⟨_, _, st2, rfl, rfl, rfl, HA.out, HM2.out, HB1.out.1, HB2.out.1, HB1.out.2, HB2.out.2, by omega, HAT.out⟩)
        · skip
          obtain ⟨o2, hr2, ha2⟩ := HA.out.stO HM1.out (.map (some wd.heap.size))
          rw [updV_twice] at ha2
          refine skip_ (w1 := ?_) (by rfl) rfl ?_ ?_
          rotate_left; · go_simp; rfl
          have HA := Lib.hid ha2
          have HAT := Lib.hid (HAT.out.putObj (o := o2) HNE.out.1)
          have HSZ := Lib.hid (sz_put HSZ.out go o2)
          have HB1 := Lib.hid (mq_put3 HB1.out HNE.out.2.2.1 o2)
          clear hr2 ha2 HM1
          refine hK.out _ _ ⟨(HAT.out.cell 1 rfl), (HAT.out.cell 2 rfl)⟩ (fun hHeld => ?_)
          clear hK K
          refine two_ (i := 11) (j := 15) (Ni := some 23) (Nj := some 26) (bA 18 32767) (bA 18 63487) rfl rfl rfl rfl (two_of HT_.out (by kernel_rfl)) (by decide) (by decide) (fun K hK => ?_) (fun K hK => ?_)
          · skip
            refine value_ (w1 := ?_) (v := ?_) (by rfl) rfl ?_ ?_
            rotate_left 2
            · go_simp
              constructor
              · rfl
              · rfl
            have HB2 := Lib.hid (mq_new3 HA.out HSZ.out (Nat.le_trans HS0.out (by omega)))
            have HB1 := Lib.hid (And.intro (HB1.out.1.al (o := .map #[] 0)) HB1.out.2)
            have HSZ := Lib.hid (sz_al HSZ.out (.map #[] 0))
            have HA := Lib.hid (HA.out.al (.map #[] 0))
            have HAT := Lib.hid (HAT.out.al (o := .map #[] 0))
            refine hK.out _ _ ⟨(HAT.out.cell 1 rfl), (HAT.out.cell 2 rfl)⟩ (fun hHeld => ?_)
            clear hK K
            refine norm_ (a' := ?_) ?_ ?_
            rotate_left
            · show Act.put _ (some 23) _ = _
              simp only [Act.put, pA, pB, pC, pD, pE]; rfl
            refine one_ (i := 15) (N := some 26) (bA 18 65535) rfl rfl (one_of HT_.out (by kernel_rfl)) (by decide) (fun K hK => ?_)
            obtain ⟨st2, o3, hr3, ha3, hs3⟩ := HA.out.swap.entO v
            rw [HFI.out] at hr3 ha3 hs3
            refine value_ (w1 := ?_) (v := ?_) (by rfl) rfl ?_ ?_
            rotate_left 2
            · go_simp
              constructor
              · rfl
              · rfl
            have HA := Lib.hid ha3.swap
            have HM2 := Lib.hid hs3
            have HAT := Lib.hid (HAT.out.putObj (o := o3) HNE.out.2.1)
            have HSZ := Lib.hid (sz_put HSZ.out gi o3)
            have HB1 := Lib.hid (mq_put3 HB1.out HNE.out.2.2.2 o3)
            have HB2 := Lib.hid (mq_put3 HB2.out HNE.out.2.2.2 o3)
            clear hr3 ha3 hs3
            refine hK.out _ _ ⟨(HAT.out.cell 1 rfl), (HAT.out.cell 2 rfl)⟩ (fun hHeld => ?_)
            clear hK K
            refine norm_ (a' := ?_) ?_ ?_
            rotate_left
            · show Act.put _ (some 26) _ = _
              simp only [Act.put, pA, pB, pC, pD, pE]; rfl
            refine pw_ 16 27 (bA 18 131071) HT_.out ?_
            exact norm_ (by simp only [putAll, Act.put, List.setIfInBounds_toArray, List.set_cons_zero, List.set_cons_succ]) (hCont (.map (some wd.heap.size), .map (some (wd.heap.size + 1)), .tuple #[.map none, .int .i64 (st1 : Int)], .int .i64 (st1 : Int), .tuple #[.map none, .int .i64 (st2 : Int)], .int .i64 (st2 : Int)) _ ⟨_, _, st2, rfl, rfl, rfl, HA.out, HM2.out, HB1.out.1, HB2.out.1, HB1.out.2, HB2.out.2, by omega, HAT.out⟩)
          · skip
            obtain ⟨st2, o3, hr3, ha3, hs3⟩ := HA.out.swap.entO v
            rw [HFI.out] at hr3 ha3 hs3
            refine value_ (w1 := ?_) (v := ?_) (by rfl) rfl ?_ ?_
            rotate_left 2
            · go_simp
              constructor
              · rfl
              · rfl
            have HA := Lib.hid ha3.swap
            have HM2 := Lib.hid hs3
            have HAT := Lib.hid (HAT.out.putObj (o := o3) HNE.out.2.1)
            have HSZ := Lib.hid (sz_put HSZ.out gi o3)
            have HB1 := Lib.hid (mq_put3 HB1.out HNE.out.2.2.2 o3)
            clear hr3 ha3 hs3
            refine hK.out _ _ ⟨(HAT.out.cell 1 rfl), (HAT.out.cell 2 rfl)⟩ (fun hHeld => ?_)
            clear hK K
            refine norm_ (a' := ?_) ?_ ?_
            rotate_left
            · show Act.put _ (some 26) _ = _
              simp only [Act.put, pA, pB, pC, pD, pE]; rfl
            refine pw_ 16 27 (bA 18 129023) HT_.out ?_
            refine one_ (i := 11) (N := some 23) (bA 18 131071) rfl rfl (one_of HT_.out (by kernel_rfl)) (by decide) (fun K hK => ?_)
            refine value_ (w1 := ?_) (v := ?_) (by rfl) rfl ?_ ?_
            rotate_left 2
            · go_simp
              constructor
              · rfl
              · rfl
            have HB2 := Lib.hid (mq_new3 HA.out HSZ.out (Nat.le_trans HS0.out (by omega)))
            have HB1 := Lib.hid (And.intro (HB1.out.1.al (o := .map #[] 0)) HB1.out.2)
            have HM2 := Lib.hid (ms_al HM2.out (.map #[] 0))
            have HSZ := Lib.hid (sz_al HSZ.out (.map #[] 0))
            have HA := Lib.hid (HA.out.al (.map #[] 0))
            have HAT := Lib.hid (HAT.out.al (o := .map #[] 0))
            refine hK.out _ _ ⟨(HAT.out.cell 1 rfl), (HAT.out.cell 2 rfl)⟩ (fun hHeld => ?_)
            clear hK K
            refine norm_ (a' := ?_) ?_ ?_
            rotate_left
            · show Act.put _ (some 23) _ = _
              simp only [Act.put, pA, pB, pC, pD, pE]; rfl
            exact norm_ (by simp only [putAll, Act.put, List.setIfInBounds_toArray, List.set_cons_zero, List.set_cons_succ]) (hCont (.map (some wd.heap.size), .map (some (wd.heap.size + 1)), .tuple #[.map none, .int .i64 (st1 : Int)], .int .i64 (st1 : Int), .tuple #[.map none, .int .i64 (st2 : Int)], .int .i64 (st2 : Int)) _ ⟨_, _, st2, rfl, rfl, rfl, HA.out, HM2.out, HB1.out.1, HB2.out.1, HB1.out.2, HB2.out.2, by omega, HAT.out⟩)
    · skip
      refine value_ (w1 := ?_) (v := ?_) (by rfl) rfl ?_ ?_
      rotate_left 2
      · go_simp
        constructor
        · rfl
        · rfl
      have HB2 := Lib.hid (mq_new3 HA.out HSZ.out (Nat.le_trans HS0.out (by omega)))
      have HSZ := Lib.hid (sz_al HSZ.out (.map #[] 0))
      have HA := Lib.hid (HA.out.al (.map #[] 0))
      have HAT := Lib.hid (HAT.out.al (o := .map #[] 0))
      refine hK.out _ _ ⟨(HAT.out.cell 1 rfl), (HAT.out.cell 2 rfl)⟩ (fun hHeld => ?_)
      clear hK K
      refine norm_ (a' := ?_) ?_ ?_
      rotate_left
      · show Act.put _ (some 23) _ = _
        simp only [Act.put, pA, pB, pC, pD, pE]; rfl
      refine two_ (i := 10) (j := 12) (Ni := some 22) (Nj := some 24) (bA 18 4095) (bA 18 7167) rfl rfl rfl rfl (two_of HT_.out (by kernel_rfl)) (by decide) (by decide) (fun K hK => ?_) (fun K hK => ?_)
      · skip
        refine value_ (w1 := ?_) (v := ?_) (by rfl) rfl ?_ ?_
        rotate_left 2
        · go_simp
          constructor
          · rfl
          · rfl
        have HB1 := Lib.hid (mq_new3 HA.out HSZ.out (Nat.le_trans HS0.out (by omega)))
        have HB2 := Lib.hid (And.intro (HB2.out.1.al (o := .map #[] 0)) HB2.out.2)
        have HSZ := Lib.hid (sz_al HSZ.out (.map #[] 0))
        have HA := Lib.hid (HA.out.al (.map #[] 0))
        have HAT := Lib.hid (HAT.out.al (o := .map #[] 0))
        refine hK.out _ _ ⟨(HAT.out.cell 1 rfl), (HAT.out.cell 2 rfl)⟩ (fun hHeld => ?_)
        clear hK K
        refine norm_ (a' := ?_) ?_ ?_
        rotate_left
        · show Act.put _ (some 22) _ = _
          simp only [Act.put, pA, pB, pC, pD, pE]; rfl
        refine one_ (i := 12) (N := some 24) (bA 18 8191) rfl rfl (one_of HT_.out (by kernel_rfl)) (by decide) (fun K hK => ?_)
        obtain ⟨st1, o1, hr1, ha1, hs1⟩ := HA.out.entO v
        rw [HFO.out] at hr1 ha1 hs1
        refine value_ (w1 := ?_) (v := ?_) (by rfl) rfl ?_ ?_
        rotate_left 2
        · go_simp
          constructor
          · rfl
          · rfl
        have HA := Lib.hid ha1
        have HM1 := Lib.hid hs1
        have HAT := Lib.hid (HAT.out.putObj (o := o1) HNE.out.1)
        have HSZ := Lib.hid (sz_put HSZ.out go o1)
        have HB1 := Lib.hid (mq_put3 HB1.out HNE.out.2.2.1 o1)
        have HB2 := Lib.hid (mq_put3 HB2.out HNE.out.2.2.1 o1)
        clear hr1 ha1 hs1
        refine hK.out _ _ ⟨(HAT.out.cell 1 rfl), (HAT.out.cell 2 rfl)⟩ (fun hHeld => ?_)
        clear hK K
        refine norm_ (a' := ?_) ?_ ?_
        rotate_left
        · show Act.put _ (some 24) _ = _
          simp only [Act.put, pA, pB, pC, pD, pE]; rfl
        refine pw_ 13 25 (bA 18 16383) HT_.out ?_
        refine one_ (i := 14) (N := none) (bA 18 32767) rfl rfl (one_of HT_.out (by kernel_rfl)) (by decide) (fun K hK => ?_)
        obtain ⟨o2, hr2, ha2⟩ := HA.out.stO HM1.out (.map (some (wd.heap.size + 1)))
        rw [updV_twice] at ha2
        refine skip_ (w1 := ?_) (by rfl) rfl ?_ ?_
        rotate_left; · go_simp; rfl
        have HA := Lib.hid ha2
        have HAT := Lib.hid (HAT.out.putObj (o := o2) HNE.out.1)
        have HSZ := Lib.hid (sz_put HSZ.out go o2)
        have HB1 := Lib.hid (mq_put3 HB1.out HNE.out.2.2.1 o2)
        have HB2 := Lib.hid (mq_put3 HB2.out HNE.out.2.2.1 o2)
        clear hr2 ha2 HM1
        refine hK.out _ _ ⟨(HAT.out.cell 1 rfl), (HAT.out.cell 2 rfl)⟩ (fun hHeld => ?_)
        clear hK K
        refine one_ (i := 15) (N := some 26) (bA 18 65535) rfl rfl (one_of HT_.out (by kernel_rfl)) (by decide) (fun K hK => ?_)
        obtain ⟨st2, o3, hr3, ha3, hs3⟩ := HA.out.swap.entO v
        rw [HFI.out] at hr3 ha3 hs3
        refine value_ (w1 := ?_) (v := ?_) (by rfl) rfl ?_ ?_
        rotate_left 2
        · go_simp
          constructor
          · rfl
          · rfl
        have HA := Lib.hid ha3.swap
        have HM2 := Lib.hid hs3
        have HAT := Lib.hid (HAT.out.putObj (o := o3) HNE.out.2.1)
        have HSZ := Lib.hid (sz_put HSZ.out gi o3)
        have HB1 := Lib.hid (mq_put3 HB1.out HNE.out.2.2.2 o3)
        have HB2 := Lib.hid (mq_put3 HB2.out HNE.out.2.2.2 o3)
        clear hr3 ha3 hs3
        refine hK.out _ _ ⟨(HAT.out.cell 1 rfl), (HAT.out.cell 2 rfl)⟩ (fun hHeld => ?_)
        clear hK K
        refine norm_ (a' := ?_) ?_ ?_
        rotate_left
        · show Act.put _ (some 26) _ = _
          simp only [Act.put, pA, pB, pC, pD, pE]; rfl
        refine pw_ 16 27 (bA 18 131071) HT_.out ?_
        exact norm_ (by simp only [putAll, Act.put, List.setIfInBounds_toArray, List.set_cons_zero, List.set_cons_succ]) (hCont (.map (some (wd.heap.size + 1)), .map (some wd.heap.size), .tuple #[.map none, .int .i64 (st1 : Int)], .int .i64 (st1 : Int), .tuple #[.map none, .int .i64 (st2 : Int)], .int .i64 (st2 : Int)) _ ⟨_, _, st2, rfl, rfl, rfl, HA.out, HM2.out, HB1.out.1, HB2.out.1, HB1.out.2, HB2.out.2, by omega, HAT.out⟩)
      · skip
        obtain ⟨st1, o1, hr1, ha1, hs1⟩ := HA.out.entO v
        rw [HFO.out] at hr1 ha1 hs1
        refine value_ (w1 := ?_) (v := ?_) (by rfl) rfl ?_ ?_
        rotate_left 2
        · go_simp
          constructor
          · rfl
          · rfl
        have HA := Lib.hid ha1
        have HM1 := Lib.hid hs1
        have HAT := Lib.hid (HAT.out.putObj (o := o1) HNE.out.1)
        have HSZ := Lib.hid (sz_put HSZ.out go o1)
        have HB2 := Lib.hid (mq_put3 HB2.out HNE.out.2.2.1 o1)
        clear hr1 ha1 hs1
        refine hK.out _ _ ⟨(HAT.out.cell 1 rfl), (HAT.out.cell 2 rfl)⟩ (fun hHeld => ?_)
        clear hK K
        refine norm_ (a' := ?_) ?_ ?_
        rotate_left
        · show Act.put _ (some 24) _ = _
          simp only [Act.put, pA, pB, pC, pD, pE]; rfl
        refine pw_ 13 25 (bA 18 15359) HT_.out ?_
        refine one_ (i := 10) (N := some 22) (bA 18 16383) rfl rfl (one_of HT_.out (by kernel_rfl)) (by decide) (fun K hK => ?_)
        refine value_ (w1 := ?_) (v := ?_) (by rfl) rfl ?_ ?_
        rotate_left 2
        · go_simp
          constructor
          · rfl
          · rfl
        have HB1 := Lib.hid (mq_new3 HA.out HSZ.out (Nat.le_trans HS0.out (by omega)))
        have HB2 := Lib.hid (And.intro (HB2.out.1.al (o := .map #[] 0)) HB2.out.2)
        have HM1 := Lib.hid (ms_al HM1.out (.map #[] 0))
        have HSZ := Lib.hid (sz_al HSZ.out (.map #[] 0))
        have HA := Lib.hid (HA.out.al (.map #[] 0))
        have HAT := Lib.hid (HAT.out.al (o := .map #[] 0))
        refine hK.out _ _ ⟨(HAT.out.cell 1 rfl), (HAT.out.cell 2 rfl)⟩ (fun hHeld => ?_)
        clear hK K
        refine norm_ (a' := ?_) ?_ ?_
        rotate_left
        · show Act.put _ (some 22) _ = _
          simp only [Act.put, pA, pB, pC, pD, pE]; rfl
        refine one_ (i := 14) (N := none) (bA 18 32767) rfl rfl (one_of HT_.out (by kernel_rfl)) (by decide) (fun K hK => ?_)
        obtain ⟨o2, hr2, ha2⟩ := HA.out.stO HM1.out (.map (some (wd.heap.size + 1)))
        rw [updV_twice] at ha2
        refine skip_ (w1 := ?_) (by rfl) rfl ?_ ?_
        rotate_left; · go_simp; rfl
        have HA := Lib.hid ha2
        have HAT := Lib.hid (HAT.out.putObj (o := o2) HNE.out.1)
        have HSZ := Lib.hid (sz_put HSZ.out go o2)
        have HB1 := Lib.hid (mq_put3 HB1.out HNE.out.2.2.1 o2)
        have HB2 := Lib.hid (mq_put3 HB2.out HNE.out.2.2.1 o2)
        clear hr2 ha2 HM1
        refine hK.out _ _ ⟨(HAT.out.cell 1 rfl), (HAT.out.cell 2 rfl)⟩ (fun hHeld => ?_)
        clear hK K
        refine one_ (i := 15) (N := some 26) (bA 18 65535) rfl rfl (one_of HT_.out (by kernel_rfl)) (by decide) (fun K hK => ?_)
        obtain ⟨st2, o3, hr3, ha3, hs3⟩ := HA.out.swap.entO v
        rw [HFI.out] at hr3 ha3 hs3
        refine value_ (w1 := ?_) (v := ?_) (by rfl) rfl ?_ ?_
        rotate_left 2
        · go_simp
          constructor
          · rfl
          · rfl
        have HA := Lib.hid ha3.swap
        have HM2 := Lib.hid hs3
        have HAT := Lib.hid (HAT.out.putObj (o := o3) HNE.out.2.1)
        have HSZ := Lib.hid (sz_put HSZ.out gi o3)
        have HB1 := Lib.hid (mq_put3 HB1.out HNE.out.2.2.2 o3)
        have HB2 := Lib.hid (mq_put3 HB2.out HNE.out.2.2.2 o3)
        clear hr3 ha3 hs3
        refine hK.out _ _ ⟨(HAT.out.cell 1 rfl), (HAT.out.cell 2 rfl)⟩ (fun hHeld => ?_)
        clear hK K
        refine norm_ (a' := ?_) ?_ ?_
        rotate_left
        · show Act.put _ (some 26) _ = _
          simp only [Act.put, pA, pB, pC, pD, pE]; rfl
        refine pw_ 16 27 (bA 18 131071) HT_.out ?_
        exact norm_ (by simp only [putAll, Act.put, List.setIfInBounds_toArray, List.set_cons_zero, List.set_cons_succ]) (hCont (.map (some (wd.heap.size + 1)), .map (some wd.heap.size), .tuple #[.map none, .int .i64 (st1 : Int)], .int .i64 (st1 : Int), .tuple #[.map none, .int .i64 (st2 : Int)], .int .i64 (st2 : Int)) _ ⟨_, _, st2, rfl, rfl, rfl, HA.out, HM2.out, HB1.out.1, HB2.out.1, HB1.out.2, HB2.out.2, by omega, HAT.out⟩)
    · skip
      obtain ⟨st1, o1, hr1, ha1, hs1⟩ := HA.out.entO v
      rw [HFO.out] at hr1 ha1 hs1
      refine value_ (w1 := ?_) (v := ?_) (by rfl) rfl ?_ ?_
      rotate_left 2
      · go_simp
        constructor
        · rfl
        · rfl
      have HA := Lib.hid ha1
      have HM1 := Lib.hid hs1
      have HAT := Lib.hid (HAT.out.putObj (o := o1) HNE.out.1)
      have HSZ := Lib.hid (sz_put HSZ.out go o1)
      clear hr1 ha1 hs1
      refine hK.out _ _ ⟨(HAT.out.cell 1 rfl), (HAT.out.cell 2 rfl)⟩ (fun hHeld => ?_)
      clear hK K
      refine norm_ (a' := ?_) ?_ ?_
      rotate_left
      · show Act.put _ (some 24) _ = _
        simp only [Act.put, pA, pB, pC, pD, pE]; rfl
      refine pw_ 13 25 (bA 18 13311) HT_.out ?_
      refine two_ (i := 10) (j := 11) (Ni := some 22) (Nj := some 23) (bA 18 14335) (bA 18 15359) rfl rfl rfl rfl (two_of HT_.out (by kernel_rfl)) (by decide) (by decide) (fun K hK => ?_) (fun K hK => ?_)
      · skip
        refine value_ (w1 := ?_) (v := ?_) (by rfl) rfl ?_ ?_
        rotate_left 2
        · go_simp
          constructor
          · rfl
          · rfl
        have HB1 := Lib.hid (mq_new3 HA.out HSZ.out (Nat.le_trans HS0.out (by omega)))
        have HM1 := Lib.hid (ms_al HM1.out (.map #[] 0))
        have HSZ := Lib.hid (sz_al HSZ.out (.map #[] 0))
        have HA := Lib.hid (HA.out.al (.map #[] 0))
        have HAT := Lib.hid (HAT.out.al (o := .map #[] 0))
        refine hK.out _ _ ⟨(HAT.out.cell 1 rfl), (HAT.out.cell 2 rfl)⟩ (fun hHeld => ?_)
        clear hK K
        refine norm_ (a' := ?_) ?_ ?_
        rotate_left
        · show Act.put _ (some 22) _ = _
          simp only [Act.put, pA, pB, pC, pD, pE]; rfl
        refine two_ (i := 11) (j := 14) (Ni := some 23) (Nj := none) (bA 18 16383) (bA 18 30719) rfl rfl rfl rfl (two_of HT_.out (by kernel_rfl)) (by decide) (by decide) (fun K hK => ?_) (fun K hK => ?_)
        · skip
          refine value_ (w1 := ?_) (v := ?_) (by rfl) rfl ?_ ?_
          rotate_left 2
          · go_simp
            constructor
            · rfl
            · rfl
          have HB2 := Lib.hid (mq_new3 HA.out HSZ.out (Nat.le_trans HS0.out (by omega)))
          have HB1 := Lib.hid (And.intro (HB1.out.1.al (o := .map #[] 0)) HB1.out.2)
          have HM1 := Lib.hid (ms_al HM1.out (.map #[] 0))
          have HSZ := Lib.hid (sz_al HSZ.out (.map #[] 0))
          have HA := Lib.hid (HA.out.al (.map #[] 0))
          have HAT := Lib.hid (HAT.out.al (o := .map #[] 0))
          refine hK.out _ _ ⟨(HAT.out.cell 1 rfl), (HAT.out.cell 2 rfl)⟩ (fun hHeld => ?_)
          clear hK K
          refine norm_ (a' := ?_) ?_ ?_
          rotate_left
          · show Act.put _ (some 23) _ = _
            simp only [Act.put, pA, pB, pC, pD, pE]; rfl
          refine one_ (i := 14) (N := none) (bA 18 32767) rfl rfl (one_of HT_.out (by kernel_rfl)) (by decide) (fun K hK => ?_)
          obtain ⟨o2, hr2, ha2⟩ := HA.out.stO HM1.out (.map (some wd.heap.size))
          rw [updV_twice] at ha2
          refine skip_ (w1 := ?_) (by rfl) rfl ?_ ?_
          rotate_left; · go_simp; rfl
          have HA := Lib.hid ha2
          have HAT := Lib.hid (HAT.out.putObj (o := o2) HNE.out.1)
          have HSZ := Lib.hid (sz_put HSZ.out go o2)
          have HB1 := Lib.hid (mq_put3 HB1.out HNE.out.2.2.1 o2)
          have HB2 := Lib.hid (mq_put3 HB2.out HNE.out.2.2.1 o2)
          clear hr2 ha2 HM1
          refine hK.out _ _ ⟨(HAT.out.cell 1 rfl), (HAT.out.cell 2 rfl)⟩ (fun hHeld => ?_)
          clear hK K
          refine one_ (i := 15) (N := some 26) (bA 18 65535) rfl rfl (one_of HT_.out (by kernel_rfl)) (by decide) (fun K hK => ?_)
          obtain ⟨st2, o3, hr3, ha3, hs3⟩ := HA.out.swap.entO v
          rw [HFI.out] at hr3 ha3 hs3
          refine value_ (w1 := ?_) (v := ?_) (by rfl) rfl ?_ ?_
          rotate_left 2
          · go_simp
            constructor
            · rfl
            · rfl
          have HA := Lib.hid ha3.swap
          have HM2 := Lib.hid hs3
          have HAT := Lib.hid (HAT.out.putObj (o := o3) HNE.out.2.1)
          have HSZ := Lib.hid (sz_put HSZ.out gi o3)
          have HB1 := Lib.hid (mq_put3 HB1.out HNE.out.2.2.2 o3)
          have HB2 := Lib.hid (mq_put3 HB2.out HNE.out.2.2.2 o3)
          clear hr3 ha3 hs3
          refine hK.out _ _ ⟨(HAT.out.cell 1 rfl), (HAT.out.cell 2 rfl)⟩ (fun hHeld => ?_)
          clear hK K
          refine norm_ (a' := ?_) ?_ ?_
          rotate_left
          · show Act.put _ (some 26) _ = _
            simp only [Act.put, pA, pB, pC, pD, pE]; rfl
          refine pw_ 16 27 (bA 18 131071) HT_.out ?_
          exact norm_ (by simp only [putAll, Act.put, List.setIfInBounds_toArray, List.set_cons_zero, List.set_cons_succ]) (hCont (.map (some wd.heap.size), .map (some (wd.heap.size + 1)), .tuple #[.map none, .int .i64 (st1 : Int)], .int .i64 (st1 : Int), .tuple #[.map none, .int .i64 (st2 : Int)], .int .i64 (st2 : Int)) _ ⟨_, _, st2, rfl, rfl, rfl, HA.out, HM2.out, HB1.out.1, HB2.out.1, HB1.out.2, HB2.out.2, by omega, HAT.out⟩)
        · skip
          obtain ⟨o2, hr2, ha2⟩ := HA.out.stO HM1.out (.map (some wd.heap.size))
          rw [updV_twice] at ha2
          refine skip_ (w1 := ?_) (by rfl) rfl ?_ ?_
          rotate_left; · go_simp; rfl
          have HA := Lib.hid ha2
          have HAT := Lib.hid (HAT.out.putObj (o := o2) HNE.out.1)
          have HSZ := Lib.hid (sz_put HSZ.out go o2)
          have HB1 := Lib.hid (mq_put3 HB1.out HNE.out.2.2.1 o2)
          clear hr2 ha2 HM1
          refine hK.out _ _ ⟨(HAT.out.cell 1 rfl), (HAT.out.cell 2 rfl)⟩ (fun hHeld => ?_)
          clear hK K
          refine two_ (i := 11) (j := 15) (Ni := some 23) (Nj := some 26) (bA 18 32767) (bA 18 63487) rfl rfl rfl rfl (two_of HT_.out (by kernel_rfl)) (by decide) (by decide) (fun K hK => ?_) (fun K hK => ?_)
          · skip
            refine value_ (w1 := ?_) (v := ?_) (by rfl) rfl ?_ ?_
            rotate_left 2
            · go_simp
              constructor
              · rfl
              · rfl
            have HB2 := Lib.hid (mq_new3 HA.out HSZ.out (Nat.le_trans HS0.out (by omega)))
            have HB1 := Lib.hid (And.intro (HB1.out.1.al (o := .map #[] 0)) HB1.out.2)
            have HSZ := Lib.hid (sz_al HSZ.out (.map #[] 0))
            have HA := Lib.hid (HA.out.al (.map #[] 0))
            have HAT := Lib.hid (HAT.out.al (o := .map #[] 0))
            refine hK.out _ _ ⟨(HAT.out.cell 1 rfl), (HAT.out.cell 2 rfl)⟩ (fun hHeld => ?_)
            clear hK K
            refine norm_ (a' := ?_) ?_ ?_
            rotate_left
            · show Act.put _ (some 23) _ = _
              simp only [Act.put, pA, pB, pC, pD, pE]; rfl
            refine one_ (i := 15) (N := some 26) (bA 18 65535) rfl rfl (one_of HT_.out (by kernel_rfl)) (by decide) (fun K hK => ?_)
            obtain ⟨st2, o3, hr3, ha3, hs3⟩ := HA.out.swap.entO v
            rw [HFI.out] at hr3 ha3 hs3
            refine value_ (w1 := ?_) (v := ?_) (by rfl) rfl ?_ ?_
            rotate_left 2
            · go_simp
              constructor
              · rfl
              · rfl
            have HA := Lib.hid ha3.swap
            have HM2 := Lib.hid hs3
            have HAT := Lib.hid (HAT.out.putObj (o := o3) HNE.out.2.1)
            have HSZ := Lib.hid (sz_put HSZ.out gi o3)
            have HB1 := Lib.hid (mq_put3 HB1.out HNE.out.2.2.2 o3)
            have HB2 := Lib.hid (mq_put3 HB2.out HNE.out.2.2.2 o3)
            clear hr3 ha3 hs3
            refine hK.out _ _ ⟨(HAT.out.cell 1 rfl), (HAT.out.cell 2 rfl)⟩ (fun hHeld => ?_)
            clear hK K
            refine norm_ (a' := ?_) ?_ ?_
            rotate_left
            · show Act.put _ (some 26) _ = _
              simp only [Act.put, pA, pB, pC, pD, pE]; rfl
            refine pw_ 16 27 (bA 18 131071) HT_.out ?_
            exact norm_ (by simp only [putAll, Act.put, List.setIfInBounds_toArray, List.set_cons_zero, List.set_cons_succ]) (hCont (.map (some wd.heap.size), .map (some (wd.heap.size + 1)), .tuple #[.map none, .int .i64 (st1 : Int)], .int .i64 (st1 : Int), .tuple #[.map none, .int .i64 (st2 : Int)], .int .i64 (st2 : Int)) _ ⟨_, _, st2, rfl, rfl, rfl, HA.out, HM2.out, HB1.out.1, HB2.out.1, HB1.out.2, HB2.out.2, by omega, HAT.out⟩)
          · skip
            obtain ⟨st2, o3, hr3, ha3, hs3⟩ := HA.out.swap.entO v
            rw [HFI.out] at hr3 ha3 hs3
            refine value_ (w1 := ?_) (v := ?_) (by rfl) rfl ?_ ?_
            rotate_left 2
            · go_simp
              constructor
              · rfl
              · rfl
            have HA := Lib.hid ha3.swap
            have HM2 := Lib.hid hs3
            have HAT := Lib.hid (HAT.out.putObj (o := o3) HNE.out.2.1)
            have HSZ := Lib.hid (sz_put HSZ.out gi o3)
            have HB1 := Lib.hid (mq_put3 HB1.out HNE.out.2.2.2 o3)
            clear hr3 ha3 hs3
            refine hK.out _ _ ⟨(HAT.out.cell 1 rfl), (HAT.out.cell 2 rfl)⟩ (fun hHeld => ?_)
            clear hK K
            refine norm_ (a' := ?_) ?_ ?_
            rotate_left
            · show Act.put _ (some 26) _ = _
              simp only [Act.put, pA, pB, pC, pD, pE]; rfl
            refine pw_ 16 27 (bA 18 129023) HT_.out ?_
            refine one_ (i := 11) (N := some 23) (bA 18 131071) rfl rfl (one_of HT_.out (by kernel_rfl)) (by decide) (fun K hK => ?_)
            refine value_ (w1 := ?_) (v := ?_) (by rfl) rfl ?_ ?_
            rotate_left 2
            · go_simp
              constructor
              · rfl
              · rfl
            have HB2 := Lib.hid (mq_new3 HA.out HSZ.out (Nat.le_trans HS0.out (by omega)))
            have HB1 := Lib.hid (And.intro (HB1.out.1.al (o := .map #[] 0)) HB1.out.2)
            have HM2 := Lib.hid (ms_al HM2.out (.map #[] 0))
            have HSZ := Lib.hid (sz_al HSZ.out (.map #[] 0))
            have HA := Lib.hid (HA.out.al (.map #[] 0))
            have HAT := Lib.hid (HAT.out.al (o := .map #[] 0))
            refine hK.out _ _ ⟨(HAT.out.cell 1 rfl), (HAT.out.cell 2 rfl)⟩ (fun hHeld => ?_)
            clear hK K
            refine norm_ (a' := ?_) ?_ ?_
            rotate_left
            · show Act.put _ (some 23) _ = _
              simp only [Act.put, pA, pB, pC, pD, pE]; rfl
            exact norm_ (by simp only [putAll, Act.put, List.setIfInBounds_toArray, List.set_cons_zero, List.set_cons_succ]) (hCont (.map (some wd.heap.size), .map (some (wd.heap.size + 1)), .tuple #[.map none, .int .i64 (st1 : Int)], .int .i64 (st1 : Int), .tuple #[.map none, .int .i64 (st2 : Int)], .int .i64 (st2 : Int)) _ ⟨_, _, st2, rfl, rfl, rfl, HA.out, HM2.out, HB1.out.1, HB2.out.1, HB1.out.2, HB2.out.2, by omega, HAT.out⟩)
      · skip
        refine value_ (w1 := ?_) (v := ?_) (by rfl) rfl ?_ ?_
        rotate_left 2
        · go_simp
          constructor
          · rfl
          · rfl
        have HB2 := Lib.hid (mq_new3 HA.out HSZ.out (Nat.le_trans HS0.out (by omega)))
        have HM1 := Lib.hid (ms_al HM1.out (.map #[] 0))
        have HSZ := Lib.hid (sz_al HSZ.out (.map #[] 0))
        have HA := Lib.hid (HA.out.al (.map #[] 0))
        have HAT := Lib.hid (HAT.out.al (o := .map #[] 0))
        refine hK.out _ _ ⟨(HAT.out.cell 1 rfl), (HAT.out.cell 2 rfl)⟩ (fun hHeld => ?_)
        clear hK K
        refine norm_ (a' := ?_) ?_ ?_
        rotate_left
        · show Act.put _ (some 23) _ = _
          simp only [Act.put, pA, pB, pC, pD, pE]; rfl
        refine one_ (i := 10) (N := some 22) (bA 18 16383) rfl rfl (one_of HT_.out (by kernel_rfl)) (by decide) (fun K hK => ?_)
        refine value_ (w1 := ?_) (v := ?_) (by rfl) rfl ?_ ?_
        rotate_left 2
        · go_simp
          constructor
          · rfl
          · rfl
        have HB1 := Lib.hid (mq_new3 HA.out HSZ.out (Nat.le_trans HS0.out (by omega)))
        have HB2 := Lib.hid (And.intro (HB2.out.1.al (o := .map #[] 0)) HB2.out.2)
        have HM1 := Lib.hid (ms_al HM1.out (.map #[] 0))
        have HSZ := Lib.hid (sz_al HSZ.out (.map #[] 0))
        have HA := Lib.hid (HA.out.al (.map #[] 0))
        have HAT := Lib.hid (HAT.out.al (o := .map #[] 0))
        refine hK.out _ _ ⟨(HAT.out.cell 1 rfl), (HAT.out.cell 2 rfl)⟩ (fun hHeld => ?_)
        clear hK K
        refine norm_ (a' := ?_) ?_ ?_
        rotate_left
        · show Act.put _ (some 22) _ = _
          simp only [Act.put, pA, pB, pC, pD, pE]; rfl
        refine one_ (i := 14) (N := none) (bA 18 32767) rfl rfl (one_of HT_.out (by kernel_rfl)) (by decide) (fun K hK => ?_)
        obtain ⟨o2, hr2, ha2⟩ := HA.out.stO HM1.out (.map (some (wd.heap.size + 1)))
        rw [updV_twice] at ha2
        refine skip_ (w1 := ?_) (by rfl) rfl ?_ ?_
        rotate_left; · go_simp; rfl
        have HA := Lib.hid ha2
        have HAT := Lib.hid (HAT.out.putObj (o := o2) HNE.out.1)
        have HSZ := Lib.hid (sz_put HSZ.out go o2)
        have HB1 := Lib.hid (mq_put3 HB1.out HNE.out.2.2.1 o2)
        have HB2 := Lib.hid (mq_put3 HB2.out HNE.out.2.2.1 o2)
        clear hr2 ha2 HM1
        refine hK.out _ _ ⟨(HAT.out.cell 1 rfl), (HAT.out.cell 2 rfl)⟩ (fun hHeld => ?_)
        clear hK K
        refine one_ (i := 15) (N := some 26) (bA 18 65535) rfl rfl (one_of HT_.out (by kernel_rfl)) (by decide) (fun K hK => ?_)
        obtain ⟨st2, o3, hr3, ha3, hs3⟩ := HA.out.swap.entO v
        rw [HFI.out] at hr3 ha3 hs3
        refine value_ (w1 := ?_) (v := ?_) (by rfl) rfl ?_ ?_
        rotate_left 2
        · go_simp
          constructor
          · rfl
          · rfl
        have HA := Lib.hid ha3.swap
        have HM2 := Lib.hid hs3
        have HAT := Lib.hid (HAT.out.putObj (o := o3) HNE.out.2.1)
        have HSZ := Lib.hid (sz_put HSZ.out gi o3)
        have HB1 := Lib.hid (mq_put3 HB1.out HNE.out.2.2.2 o3)
        have HB2 := Lib.hid (mq_put3 HB2.out HNE.out.2.2.2 o3)
        clear hr3 ha3 hs3
        refine hK.out _ _ ⟨(HAT.out.cell 1 rfl), (HAT.out.cell 2 rfl)⟩ (fun hHeld => ?_)
        clear hK K
        refine norm_ (a' := ?_) ?_ ?_
        rotate_left
        · show Act.put _ (some 26) _ = _
          simp only [Act.put, pA, pB, pC, pD, pE]; rfl
        refine pw_ 16 27 (bA 18 131071) HT_.out ?_
        exact norm_ (by simp only [putAll, Act.put, List.setIfInBounds_toArray, List.set_cons_zero, List.set_cons_succ]) (hCont (.map (some (wd.heap.size + 1)), .map (some wd.heap.size), .tuple #[.map none, .int .i64 (st1 : Int)], .int .i64 (st1 : Int), .tuple #[.map none, .int .i64 (st2 : Int)], .int .i64 (st2 : Int)) _ ⟨_, _, st2, rfl, rfl, rfl, HA.out, HM2.out, HB1.out.1, HB2.out.1, HB1.out.2, HB2.out.2, by omega, HAT.out⟩)
  rintro ⟨s1, s2, s3, s4, s5, s6⟩ wc ⟨b1, b2, st, h1, h2, h3, hA, hM, hB1, hB2, l1, l2, l3, hat⟩
  dsimp only at h1 h2 h3
  subst h1 h2 h3
  obtain ⟨o4, hr4, ha4⟩ := hA.swap.stO hM (.map (some b2))
  rw [updV_twice] at ha4
  have HA := Lib.hid ha4.swap
  have HB := Lib.hid (And.intro hB1 (And.intro hB2 (And.intro l1 (And.intro l2 l3))))
  have HAT := Lib.hid hat
  clear ha4 hA hM hB1 hB2 l1 l2 l3 hat
  have hHeld := True.intro
  refine norm_ (a' := ?_) ?_ ?_
  rotate_left; · simp only [putAll, Act.put, List.setIfInBounds_toArray, List.set_cons_zero, List.set_cons_succ]; rfl
  refine last_ (i := 17) (N := none) (bA 18 262143) rfl rfl (one_of HT_.out (by kernel_rfl)) (by decide) (fun K hK => ?_)
  refine skip_ (w1 := ?_) (by rfl) rfl ?_ ?_
  rotate_left; · go_simp; rfl
  refine hK.out _ _ ?_; clear hK K
  refine done_ (done_of HT_.out (by kernel_rfl)) ?_
  clear hHeld HT_ HW_
  obtain ⟨e1, e2⟩ := HF.out
  subst e1 e2
  obtain ⟨hm1, hP1, hk1⟩ := H1.out
  obtain ⟨h, hv⟩ := HX.out
  obtain ⟨m1, m2, l1, l2, l3⟩ := HB.out
  have HE := Lib.hid (addv_end h hv hm1 hP1 hk1 (Nat.le_succ _) HA.out (MQ.put2 m1 (Nat.ne_of_gt (Nat.lt_of_lt_of_le HNE.out.2.2.2 l1)) o4) (MQ.put2 m2 (Nat.ne_of_gt (Nat.lt_of_lt_of_le HNE.out.2.2.2 l2)) o4) l1 l2 l3 (HAT.out.putObj (o := o4) HNE.out.2.1))
  clear hm1 hP1 hk1 h hv m1 m2 l1 l2 l3 HA HAT HB HF HX H1 HNE q1 q2 hmk hps hr4
  go_wp2
  go_ret
  exact ⟨rfl, HE.out⟩
end
end Go.Proofs.Ythomnpgpbhpojaa.Cd
