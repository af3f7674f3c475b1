/- cond: AddArc's three maps. -/
import Derived.Test.YthomnpgpbhpojaaGd14
namespace Go.Proofs.Ythomnpgpbhpojaa.Cd
open Go Go.RowKit Go.MapKept Go.Proofs.Ythomnpgpbhpojaa.Mem Go.Proofs.Ythomnpgpbhpojaa.Sl Go.Proofs.Ythomnpgpbhpojaa.Lw Go.Proofs.Ythomnpgpbhpojaa.Pt Go.Proofs.YthomnpgpbhpojaaW.PrintWords Go.Proofs.YthomnpgpbhpojaaW.PrintLast
attribute [local go_sem ↓] Go.wp_at_zero Go.wp_at_succ
set_option linter.unusedSimpArgs false
set_option linter.unusedVariables false

section
variable {w w' W W' w1 : World} {gc ga go gi gp gm : Nat} {lk : Int} {arcs : Int → Option (Int × Int)} {ob ib : Int → Nat} {cls : Int → Option Nat} {row : Nat → List Int} {val : Nat → Value} {tg : Nat → Nat × Int} {pb cb : Nat → Prop} {fa fo fi fu fv : Int → Option Value} {Fo Fi : Int → Int → Option Value} {D : Int → Prop}
structure AAs (w1 : World) (a b c : Nat) (fa fu fv : Int → Option Value) (W : World) : Prop where
  k : Kpt (fun k => k = a ∨ k = b ∨ k = c) w1 W
  ma : MQ W a fa
  mb : MQ W b fu
  mc : MQ W c fv
  ab : a ≠ b
  ac : a ≠ c
  bc : b ≠ c
theorem AAs.rot {a b c : Nat} (h : AAs w1 a b c fa fu fv W) : AAs w1 b c a fu fv fa W := ⟨h.k.mono (fun k _ e => e.elim (fun e => .inr (.inr e)) (fun e => e.elim .inl fun e => .inr (.inl e))), h.mb, h.mc, h.ma, h.bc, h.ab.symm, h.ac.symm⟩
theorem AAs.ent {a b c : Nat} (h : AAs w1 a b c fa fu fv W) (e : Int) : ∃ (x : Value) (st : Nat) (o : Obj), (Instr.mapEntry 53 (.map (some a)) (.int .i64 e)).run Try.prog W = .ok (.tuple #[x, .int .i64 (st : Int)]) (putObj W a o) ∧
    AAs w1 a b c (updV fa e (some x)) fu fv (putObj W a o) ∧ MS (putObj W a o) a (updV fa e (some x)) e st := by
  obtain ⟨st, o, hr, hms⟩ := h.ma.entry (P := Try.prog) (T := 53) Try.underlying53 Try.underlying3 zero_arc e
  exact ⟨_, st, o, hr, ⟨kpt_put h.k (fun _ => .inl rfl) o, hms.mq, MQ.put2 h.mb h.ab.symm o, MQ.put2 h.mc h.ac.symm o, h.ab, h.ac, h.bc⟩, hms⟩
theorem AAs.st {a b c : Nat} {e : Int} {x : Option Value} {st : Nat} (h : AAs w1 a b c (updV fa e x) fu fv W) (hs : MS W a (updV fa e x) e st) (u : Value) : ∃ (o : Obj), (Instr.entryStore 53 (.map (some a)) (.int .i64 (st : Int)) u).run Try.prog W = .ok () (putObj W a o) ∧ AAs w1 a b c (updV fa e (some u)) fu fv (putObj W a o) := by
  obtain ⟨o, hr, hm⟩ := hs.store (P := Try.prog) (T := 53) u
  rw [updV_twice] at hm
  exact ⟨o, hr, kpt_put h.k (fun _ => .inl rfl) o, hm, MQ.put2 h.mb h.ab.symm o, MQ.put2 h.mc h.ac.symm o, h.ab, h.ac, h.bc⟩
def addA (arcs : Int → Option (Int × Int)) (e u v : Int) : Int → Option (Int × Int) := fun x => if x = e then some (u, v) else arcs x
theorem arF_add {e u v : Int} : updV (arF arcs) e (some (aV (u, v))) = arF (addA arcs e u v) := by
  funext x
  unfold updV arF addA
  by_cases h : x = e <;> simp [h]
theorem ouF_add {e u v : Int} : updV (ouF arcs u) e (some (aV (u, v))) = ouF (addA arcs e u v) u := by
  funext x
  unfold updV ouF addA
  by_cases h : x = e <;> simp [h]
theorem inF_add {e u v : Int} : updV (inF arcs v) e (some (aV (u, v))) = inF (addA arcs e u v) v := by
  funext x
  unfold updV inF addA
  by_cases h : x = e <;> simp [h]
theorem ouF_else {e u v x : Int} (he : arcs e = none) (hx : x ≠ u) : ouF (addA arcs e u v) x = ouF arcs x := by
  funext y
  unfold ouF addA
  by_cases h : y = e
  · subst h
    simp [he, hx.symm]
  · simp [h]
theorem inF_else {e u v x : Int} (he : arcs e = none) (hx : x ≠ v) : inF (addA arcs e u v) x = inF arcs x := by
  funext y
  unfold inF addA
  by_cases h : y = e
  · subst h
    simp [he, hx.symm]
  · simp [h]
theorem adda_end {e u v : Int} (h : CdS w1 gc ga go gi gp gm lk arcs ob ib cls row val tg pb cb) (hu : cls u ≠ none) (hv : cls v ≠ none) (he : arcs e = none) (hf : ∃ K : List Int, K.length ≤ 999 ∧ ∀ e, arcs e ≠ none → e ∈ K)
    (hA : AAs w1 ga (ob u) (ib v) (updV (arF arcs) e (some (aV (u, v)))) (updV (ouF arcs u) e (some (aV (u, v)))) (updV (inF arcs v) e (some (aV (u, v)))) W) :
    CdS W gc ga go gi gp gm lk (addA arcs e u v) ob ib cls row val tg pb cb := by
  rw [arF_add, ouF_add, inF_add] at hA
  have hk := hA.k
  have hcase : ∀ k, (k = ga ∨ k = ob u ∨ k = ib v) → tg k = (0, 0) ∨ tg k = (4, u) ∨ tg k = (5, v) := fun k hk => hk.elim (fun e => .inl (e ▸ h.m.t.a)) fun e => e.elim (fun e => .inr (.inl (e ▸ h.m.t.ob u hu))) fun e => .inr (.inr (e ▸ h.m.t.ib v hv))
  have hcb : ∀ k, (k = ga ∨ k = ob u ∨ k = ib v) → ¬ pb k := fun k hk => hk.elim (fun e => e ▸ h.m.na) fun e => e.elim (fun e => e ▸ h.m.nob u hu) fun e => e ▸ h.m.nib v hv
  have hq : ∀ {k : Nat} {f : Int → Option Value}, MQ w1 k f → (tg k ≠ (0, 0) ∧ tg k ≠ (4, u) ∧ tg k ≠ (5, v)) → MQ W k f := fun hm hn => hm.move (hk.block _ hm.lt fun hh => (hcase _ hh).elim hn.1 fun e => e.elim hn.2.1 hn.2.2)
  have hmq : ∀ {k g : Nat} {cs : List Value} {T : TypeId}, At w1 g cs T → ¬ (g = ga ∨ g = ob u ∨ g = ib v) := fun hg hh => hh.elim (h.m.ha.ne hg) fun hh => hh.elim ((h.m.oo u hu).ne hg) ((h.m.ii v hv).ne hg)
  refine ⟨⟨h.m.hc.kept hk (hmq (k := 0) h.m.hc), hA.ma, hq h.m.ho ?_, hq h.m.hi ?_, fun x hx => ?_, fun x hx => ?_, h.m.t, h.m.nc, h.m.na, h.m.no, h.m.ni, h.m.nob, h.m.nib, h.m.cc, h.m.ca, h.m.co, h.m.ci, h.m.cob, h.m.cib, h.m.cp, h.m.cgp, fun k hh => Nat.lt_of_lt_of_le (h.m.lt k hh) hk.size⟩,
    PtS.keep h.p hk (hmq (k := 0) h.p.hp) fun k hp hh => hcb k hh hp, fun x p hp => ?_, ?_⟩
  · rw [h.m.t.o]; simp
  · rw [h.m.t.i]; simp
  · by_cases e1 : x = u
    · subst e1; exact hA.mb
    · rw [ouF_else he e1]
      exact hq (h.m.oo x hx) (by rw [h.m.t.ob x hx]; simp [e1])
  · by_cases e1 : x = v
    · subst e1; exact hA.mc
    · rw [inF_else he e1]
      exact hq (h.m.ii x hx) (by rw [h.m.t.ib x hx]; simp [e1])
  · unfold addA at hp
    by_cases e1 : x = e
    · rw [if_pos e1] at hp
      cases hp
      exact ⟨hu, hv⟩
    · rw [if_neg e1] at hp
      exact h.en x p hp
  · obtain ⟨K, hK, hKa⟩ := hf
    refine ⟨e :: K, by simp; omega, fun x hx => ?_⟩
    unfold addA at hx
    by_cases e1 : x = e
    · simp [e1]
    · rw [if_neg e1] at hx
      exact List.mem_cons_of_mem _ (hKa x hx)
theorem CdS.grow (h : CdS W gc ga go gi gp gm lk arcs ob ib cls row val tg pb cb) (w : World) : CdS W gc ga go gi gp gm lk arcs ob ib cls row val tg pb (ext cb w W) :=
  ⟨⟨h.m.hc, h.m.ha, h.m.ho, h.m.hi, h.m.oo, h.m.ii, h.m.t, h.m.nc, h.m.na, h.m.no, h.m.ni, h.m.nob, h.m.nib, .inl h.m.cc, .inl h.m.ca, .inl h.m.co, .inl h.m.ci, fun x hx => .inl (h.m.cob x hx), fun x hx => .inl (h.m.cib x hx), fun k hk => .inl (h.m.cp k hk), .inl h.m.cgp, fun k hk => hk.elim (h.m.lt k) fun e => e.2⟩, h.p, h.en, h.fin⟩
theorem CdS.mono {cb' : Nat → Prop} (h : CdS W gc ga go gi gp gm lk arcs ob ib cls row val tg pb cb) (hs : ∀ k, cb k → cb' k) (hl : ∀ k, cb' k → k < W.heap.size) : CdS W gc ga go gi gp gm lk arcs ob ib cls row val tg pb cb' :=
  ⟨⟨h.m.hc, h.m.ha, h.m.ho, h.m.hi, h.m.oo, h.m.ii, h.m.t, h.m.nc, h.m.na, h.m.no, h.m.ni, h.m.nob, h.m.nib, hs _ h.m.cc, hs _ h.m.ca, hs _ h.m.co, hs _ h.m.ci, fun x hx => hs _ (h.m.cob x hx), fun x hx => hs _ (h.m.cib x hx), fun k hk => hs _ (h.m.cp k hk), hs _ h.m.cgp, hl⟩, h.p, h.en, h.fin⟩
theorem CdS.kept {p : Nat → Prop} (h : CdS W gc ga go gi gp gm lk arcs ob ib cls row val tg pb cb) (hk : Kpt p W W') (hp : ∀ k, cb k → ¬ p k) : CdS W' gc ga go gi gp gm lk arcs ob ib cls row val tg pb cb :=
  ⟨⟨h.m.hc.kept hk (hp _ h.m.cc), h.m.ha.move (hk.block _ h.m.ha.lt (hp _ h.m.ca)), h.m.ho.move (hk.block _ h.m.ho.lt (hp _ h.m.co)), h.m.hi.move (hk.block _ h.m.hi.lt (hp _ h.m.ci)), fun x hx => (h.m.oo x hx).move (hk.block _ (h.m.oo x hx).lt (hp _ (h.m.cob x hx))), fun x hx => (h.m.ii x hx).move (hk.block _ (h.m.ii x hx).lt (hp _ (h.m.cib x hx))),
    h.m.t, h.m.nc, h.m.na, h.m.no, h.m.ni, h.m.nob, h.m.nib, h.m.cc, h.m.ca, h.m.co, h.m.ci, h.m.cob, h.m.cib, h.m.cp, h.m.cgp, fun k hk' => Nat.lt_of_lt_of_le (h.m.lt k hk') hk.size⟩, PtS.keep h.p hk (hp _ h.m.cgp) fun k hk' => hp k (h.m.cp k hk'), h.en, h.fin⟩
theorem vtF_re {cls' : Int → Option Nat} (hn : ∀ x, cls' x = none ↔ cls x = none) (f : Int → Nat) : vtF cls' f = vtF cls f := by
  funext x
  unfold vtF
  have := hn x
  cases h1 : cls x with
  | none => rw [this.2 h1]
  | some b =>
    cases h2 : cls' x with
    | none => rw [this.1 h2] at h1; cases h1
    | some c => rfl
theorem CdS.reparts {cls' : Int → Option Nat} {row' : Nat → List Int} {val' : Nat → Value} (h : CdS W gc ga go gi gp gm lk arcs ob ib cls row val tg pb cb) (hk : Kpt pb W W') (hn : ∀ x, cls' x = none ↔ cls x = none) (hp : PtS W' gp gm cls' row' val' (ext pb W W')) :
    CdS W' gc ga go gi gp gm lk arcs ob ib cls' row' val' tg (ext pb W W') (ext cb W W') := by
  have hm := h.m.part hk
  refine ⟨?_, hp, fun e p he => ⟨fun e1 => (h.en e p he).1 ((hn _).1 e1), fun e1 => (h.en e p he).2 ((hn _).1 e1)⟩, h.fin⟩
  rw [vtF_re hn, vtF_re hn]
  have hD : (fun v => cls' v ≠ none) = fun v => cls v ≠ none := by
    funext v
    simp only [ne_eq, hn]
  rw [hD]
  exact hm

def Joined (cls cls' : Int → Option Nat) (T : List Int) : Prop :=
  (∀ x, cls' x = none ↔ cls x = none) ∧ ∀ x y, cls x ≠ none → cls y ≠ none → (cls' x = cls' y ↔ cls x = cls y ∨ ((∃ w ∈ T, cls x = cls w) ∧ ∃ w ∈ T, cls y = cls w))
theorem Joined.refl (u : Int) : Joined cls cls [u] := ⟨fun _ => Iff.rfl, fun x y _ _ => ⟨.inl, fun h => h.elim id fun ⟨⟨a, ha, h1⟩, ⟨b, hb, h2⟩⟩ => by
  simp only [List.mem_singleton] at ha hb
  subst ha hb
  exact h1.trans h2.symm⟩⟩
theorem Joined.congr {c1 : Int → Option Nat} {T T' : List Int} (h : Joined cls c1 T) (hT : ∀ x, x ∈ T ↔ x ∈ T') : Joined cls c1 T' :=
  ⟨h.1, fun x y hx hy => by simpa only [hT] using h.2 x y hx hy⟩
theorem Joined.no {c1 : Int → Option Nat} {T : List Int} {u x : Int} (h : Joined cls c1 T) (hu : u ∈ T) (hun : cls u ≠ none) (hxn : cls x ≠ none) (he : c1 u = c1 x) : Joined cls c1 (T ++ [x]) := by
  have hx : ∃ w ∈ T, cls x = cls w := by
    rcases (h.2 u x hun hxn).1 he with h1 | ⟨_, h1⟩
    · exact ⟨u, hu, h1.symm⟩
    · exact h1
  have hT : ∀ a, (∃ w ∈ T ++ [x], cls a = cls w) ↔ ∃ w ∈ T, cls a = cls w := fun a => by
    constructor
    · rintro ⟨w, hw, h1⟩
      rcases List.mem_append.1 hw with hw | hw
      · exact ⟨w, hw, h1⟩
      · obtain rfl : w = x := by simpa using hw
        obtain ⟨w2, hw2, h2⟩ := hx
        exact ⟨w2, hw2, h1.trans h2⟩
    · rintro ⟨w, hw, h1⟩
      exact ⟨w, List.mem_append_left _ hw, h1⟩
  refine ⟨h.1, fun a b ha hb => ?_⟩
  rw [h.2 a b ha hb, hT a, hT b]
theorem Joined.yes {c1 : Int → Option Nat} {T : List Int} {u x : Int} {bu bx bl bm : Nat} (h : Joined cls c1 T) (hu : u ∈ T) (hun : cls u ≠ none) (hxn : cls x ≠ none) (h1 : c1 u = some bu) (h2 : c1 x = some bx) (hne : bu ≠ bx) (hb : (bl = bu ∧ bm = bx) ∨ (bl = bx ∧ bm = bu)) :
    Joined cls (jcls c1 bl bm) (T ++ [x]) := by
  have hlm : bl ≠ bm := by rcases hb with ⟨rfl, rfl⟩ | ⟨rfl, rfl⟩; exact hne; exact hne.symm
  have hset : ∀ a, (c1 a = some bl ∨ c1 a = some bm) ↔ (c1 a = c1 u ∨ c1 a = c1 x) := fun a => by
    rw [h1, h2]
    rcases hb with ⟨rfl, rfl⟩ | ⟨rfl, rfl⟩
    · exact Iff.rfl
    · exact or_comm
  have hj : ∀ a b, c1 a ≠ none → (jcls c1 bl bm a = jcls c1 bl bm b ↔ c1 a = c1 b ∨ ((c1 a = some bl ∨ c1 a = some bm) ∧ (c1 b = some bl ∨ c1 b = some bm))) := fun a b ha => by
    unfold jcls
    by_cases ea : c1 a = some bm <;> by_cases eb : c1 b = some bm
    · simp [ea, eb]
    · rw [if_pos ea, if_neg eb]
      constructor
      · intro e; exact .inr ⟨.inr ea, .inl e.symm⟩
      · rintro (e | ⟨_, e | e⟩)
        · exact absurd (e.symm.trans ea) eb
        · exact e.symm
        · exact absurd e eb
    · rw [if_neg ea, if_pos eb]
      constructor
      · intro e; exact .inr ⟨.inl e, .inr eb⟩
      · rintro (e | ⟨e | e, _⟩)
        · exact absurd (e.trans eb) ea
        · exact e
        · exact absurd e ea
    · rw [if_neg ea, if_neg eb]
      constructor
      · exact .inl
      · rintro (e | ⟨e | e, e2 | e2⟩)
        · exact e
        · exact e.trans e2.symm
        · exact absurd e2 eb
        · exact absurd e ea
        · exact absurd e ea
  have htu : ∀ a, cls a ≠ none → (c1 a = c1 u ↔ ∃ w ∈ T, cls a = cls w) := fun a ha => by
    rw [h.2 a u ha hun]
    constructor
    · rintro (e | ⟨e, _⟩)
      · exact ⟨u, hu, e⟩
      · exact e
    · intro e; exact .inr ⟨e, u, hu, rfl⟩
  have hnx : ¬ ∃ w ∈ T, cls x = cls w := fun e => by
    have := (htu x hxn).2 e
    rw [h1, h2] at this
    cases this
    exact hne rfl
  have htx : ∀ a, cls a ≠ none → (c1 a = c1 x ↔ cls a = cls x) := fun a ha => by
    rw [h.2 a x ha hxn]
    constructor
    · rintro (e | ⟨_, e⟩)
      · exact e
      · exact absurd e hnx
    · exact .inl
  have hT : ∀ a, (∃ w ∈ T ++ [x], cls a = cls w) ↔ (∃ w ∈ T, cls a = cls w) ∨ cls a = cls x := fun a => by
    constructor
    · rintro ⟨w, hw, h1⟩
      rcases List.mem_append.1 hw with hw | hw
      · exact .inl ⟨w, hw, h1⟩
      · obtain rfl : w = x := by simpa using hw
        exact .inr h1
    · rintro (⟨w, hw, h1⟩ | e)
      · exact ⟨w, List.mem_append_left _ hw, h1⟩
      · exact ⟨x, by simp, e⟩
  refine ⟨fun a => ?_, fun a b ha hb => ?_⟩
  · rw [← h.1 a]
    unfold jcls
    by_cases e : c1 a = some bm
    · rw [if_pos e, e]; simp
    · rw [if_neg e]
  · have ha1 : c1 a ≠ none := fun e => ha ((h.1 a).1 e)
    rw [hj a b ha1, hset a, hset b, h.2 a b ha hb, hT a, hT b, htu a ha, htu b hb, htx a ha, htx b hb]
    constructor
    · rintro ((e | ⟨e1, e2⟩) | e)
      · exact .inl e
      · exact .inr ⟨.inl e1, .inl e2⟩
      · exact .inr e
    · rintro (e | e)
      · exact .inl (.inl e)
      · exact .inr e
theorem CdS.rowle (h : CdS W gc ga go gi gp gm lk arcs ob ib cls row val tg pb cb) {V : List Int} (hV : ∀ x, cls x ≠ none → x ∈ V) : ∀ v b, cls v = some b → (row b).length ≤ V.length := fun v b hv =>
  nodup_le (h.p.r.nd v b hv) fun x hx => hV x (by rw [(h.p.r.mem v b hv x).1 hx]; simp)
theorem join_step {c0 : Int → Option Nat} {T V : List Int} (h : CdS W gc ga go gi gp gm lk arcs ob ib cls row val tg pb cb) (hJ : Joined c0 cls T) (u x : Int) (hu : u ∈ T) (hun : c0 u ≠ none) (hxn : c0 x ≠ none) (hV : ∀ x, c0 x ≠ none → x ∈ V) (hVl : V.length ≤ 500) :
    Calls Try.prog 36 #[.pointer (some ⟨gp, 0, none⟩), .int .i64 u, .int .i64 x] W fun e W' => ∃ b, e = .returned (.bool b) ∧ ∃ cls' row' val' pb' cb', CdS W' gc ga go gi gp gm lk arcs ob ib cls' row' val' tg pb' cb' ∧ Joined c0 cls' (T ++ [x]) ∧ Kpt pb W W' ∧
      (∀ k, cb' k → ext cb W W' k) ∧ ∀ k, pb' k → ext pb W W' k := by
  have hVc : ∀ x, cls x ≠ none → x ∈ V := fun x hx => hV x fun e => hx ((hJ.1 x).2 e)
  cases h1 : cls u with
  | none => exact absurd ((hJ.1 u).1 h1) hun
  | some bu =>
    cases h2 : cls x with
    | none => exact absurd ((hJ.1 x).1 h2) hxn
    | some bx =>
      by_cases e : bu = bx
      · subst e
        refine (join_no h.p u x (.inr (.inr (h1.trans h2.symm)))).mono ?_
        rintro e W' ⟨rfl, hb⟩
        exact ⟨_, rfl, cls, row, val, pb, cb, h.below hb, hJ.no hu hun hxn (h1.trans h2.symm), Kpt.of_below hb, fun k hk => .inl hk, fun k hk => .inl hk⟩
      · refine (join_calls h.p u x h1 h2 e fun v b hv => Nat.le_trans (h.rowle hVc v b hv) (by omega)).mono ?_
        rintro e' W' ⟨rfl, hk, bl, bm, row', val', hbl, hp⟩
        have hJ' := hJ.yes hu hun hxn h1 h2 e hbl
        exact ⟨_, rfl, _, row', val', _, _, h.reparts hk (fun y => (hJ'.1 y).trans (hJ.1 y).symm) hp, hJ', hk, fun k hk => hk, fun k hk => hk⟩
end
end Go.Proofs.Ythomnpgpbhpojaa.Cd
