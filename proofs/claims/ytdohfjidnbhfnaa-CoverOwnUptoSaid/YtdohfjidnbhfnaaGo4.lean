import Derived.Test.YtdohfjidnbhfnaaGo2
import Derived.Test.YtdohfjidnbhfnaaGo3
import Derived.Test.YtdohfjidnbhfnaaGo1
import Derived.Deep.RegionHeld3
import Derived.Deep.DrawnRows
import Derived.Deep.LoopGhost
import Derived.Deep.DeepCutAuto
import Derived.BigRegion
import Derived.Outline
import Derived.WalkLawsBesides
import Derived.WalkSpells
import Derived.Lib.Hide
import Derived.Maps.AppendAt
import Derived.Deep.OwnRows
import Derived.Deep.RegionWith
import Derived.Great.BuildSlice
import Derived.Lib.SlicesCompact
-- PRINTED BY print.sh 35421559b90ae4d0a3588c463048766b98c2df88dd9212a6774a882060cdf62d: not written by this session
/-! ### 50. A region's order in a table, made once a region: each step asks the table (numbers alone), not the operations -/
namespace Go.Proofs.YtdohfjidnbhfnaaW.PrintLast
set_option linter.unusedSimpArgs false
set_option linter.unusedVariables false
open Go.Proofs.YtdohfjidnbhfnaaW.PrintWords (Aside0)
def needsOf (md : Region.Mode) (o : Oper) : List Nat := (o.after.toList.filter (fun e => Region.binds md e)).map (fun e => e.on)
def clashOf (md : Region.Mode) (ops : Array Oper) (i : Nat) (oi : Oper) : List Nat := (List.range ops.size).filter fun j => !(j == i) && match ops[j]? with
  | some oj => !(oj.after.any (fun e => Region.binds md e && e.on == i) || oi.apart ops oj)
  | none => false
def rtab (md : Region.Mode) (ops : Array Oper) : Bool × List (List Nat × List Nat) := (Region.noSelect ops, (List.range ops.size).map fun i => match ops[i]? with
  | some o => (needsOf md o, clashOf md ops i o)
  | none => ([], []))
def readyAt (T : List (List Nat × List Nat)) (l : List Bool) (i : Nat) : Bool := !l.getD i true && match T[i]? with
  | some r => r.1.all (fun j => l.getD j false)
  | none => false
def readyT (T : List (List Nat × List Nat)) (l : List Bool) : List Nat := (List.range T.length).filter (readyAt T l)
def freeT (T : List (List Nat × List Nat)) (l : List Bool) (i : Nat) : Bool := match T[i]? with
  | some r => r.2.all (fun j => l.getD j true)
  | none => false
def closedT (T : List (List Nat × List Nat)) (l : List Bool) : Bool := (List.range T.length).all fun j => !l.getD j false || match T[j]? with
  | some r => r.1.all (fun k => l.getD k false)
  | none => true
def reachT (T : List (List Nat × List Nat)) (i : Nat) : Nat → Nat → Bool
  | 0, _ => false
  | fuel + 1, d => match T[d]? with
    | some r => r.1.any fun j => j == i || reachT T i fuel j
    | none => false
def lastT (T : List (List Nat × List Nat)) (l : List Bool) (ds : List Nat) (i : Nat) : Bool := ds.all fun d => l.getD d true || reachT T i T.length d
section
variable {md : Region.Mode} {ops : Array Oper} {T : Bool × List (List Nat × List Nat)} {l l' li lj lk : Array Bool} {ds : List Nat} {i j k : Nat}
theorem gd (l : Array Bool) (j : Nat) (b : Bool) : l.getD j b = l.toList.getD j b := by simp [Array.getD_eq_getD_getElem?, List.getD_eq_getElem?_getD]
theorem needs_all (o : Oper) (p : Nat → Bool) : o.after.all (fun e => !Region.binds md e || p e.on) = (needsOf md o).all p := by
  unfold needsOf
  rw [← Array.all_toList]
  induction o.after.toList with
  | nil => rfl
  | cons e r ih =>
    rw [List.all_cons, ih, List.filter_cons]
    cases h : Region.binds md e <;> simp
theorem needs_any (o : Oper) (p : Nat → Bool) : o.after.any (fun e => Region.binds md e && p e.on) = (needsOf md o).any p := by
  unfold needsOf
  rw [← Array.any_toList]
  induction o.after.toList with
  | nil => rfl
  | cons e r ih =>
    rw [List.any_cons, ih, List.filter_cons]
    cases h : Region.binds md e <;> simp
theorem rtab_length : (rtab md ops).2.length = ops.size := by simp [rtab]
theorem rtab_some {o : Oper} (h : ops[i]? = some o) : (rtab md ops).2[i]? = some (needsOf md o, clashOf md ops i o) := by
  have hi := (Array.getElem?_eq_some_iff.1 h).1
  unfold rtab
  rw [List.getElem?_map, List.getElem?_range hi, Option.map_some, h]
theorem rtab_none (h : ops[i]? = none) : (rtab md ops).2[i]? = none := by
  have hi : ops.size ≤ i := Array.getElem?_eq_none_iff.1 h
  exact List.getElem?_eq_none (by rw [rtab_length]; exact hi)
theorem readyAt_eq : readyAt (rtab md ops).2 l.toList i = (!l.getD i true && ((ops[i]?).map (·.after.all fun e => !Region.binds md e || l.getD e.on false)).getD false) := by
  unfold readyAt
  rw [gd]
  cases h : ops[i]? with
  | none => rw [rtab_none h]; rfl
  | some o =>
    rw [rtab_some h]
    simp only [Option.map_some, Option.getD_some]
    rw [← needs_all]
    simp only [gd]
theorem ready_eq : Region.ready md ops l = readyT (rtab md ops).2 l.toList := by
  unfold Region.ready readyT
  rw [rtab_length]
  refine List.filter_congr (fun i _ => ?_)
  rw [readyAt_eq]
theorem free_eq : Region.free md ops l i = freeT (rtab md ops).2 l.toList i := by
  unfold Region.free freeT
  cases h : ops[i]? with
  | none => rw [rtab_none h]
  | some oi =>
    rw [rtab_some h]
    simp only [clashOf]
    rw [List.all_filter]
    congr 1
    funext j
    rw [gd]
    cases hj : ops[j]? with
    | none => cases (j == i) <;> cases (l.toList.getD j true) <;> simp
    | some oj =>
      cases (j == i) <;> cases (l.toList.getD j true) <;> cases (oj.after.any (fun e => Region.binds md e && e.on == i) || oi.apart ops oj) <;> simp_all
theorem closed_eq : Region.closedB md ops l = closedT (rtab md ops).2 l.toList := by
  unfold Region.closedB closedT
  rw [rtab_length]
  congr 1
  funext j
  rw [gd]
  cases h : ops[j]? with
  | none => rw [rtab_none h]
  | some o =>
    rw [rtab_some h]
    simp only
    rw [← needs_all]
    simp only [gd]
theorem reach_eq : ∀ (fuel d : Nat), Region.reachB md ops i fuel d = reachT (rtab md ops).2 i fuel d
  | 0, _ => rfl
  | fuel + 1, d => by
    unfold Region.reachB reachT
    cases h : ops[d]? with
    | none => rw [rtab_none h]
    | some o =>
      rw [rtab_some h]
      simp only
      rw [← needs_any]
      congr 1
      funext e
      rw [reach_eq fuel]
theorem last_eq : Region.lastB md ops l ds i = lastT (rtab md ops).2 l.toList ds i := by
  unfold Region.lastB lastT
  rw [rtab_length]
  congr 1
  funext d
  rw [gd, reach_eq]
theorem readyAt_mem (h : readyAt T.2 l.toList i = true) (hT : rtab md ops = T) : (Region.ready md ops l).contains i = true := by
  subst hT
  rw [ready_eq]
  unfold readyT
  rw [List.contains_iff_mem, List.mem_filter, List.mem_range]
  refine ⟨?_, h⟩
  unfold readyAt at h
  rw [Bool.and_eq_true] at h
  cases hq : (rtab md ops).2[i]? with
  | none => rw [hq] at h; simp at h
  | some r => exact (List.getElem?_eq_some_iff.1 hq).1
theorem set_of (h : (l.toList.set i true == l'.toList) = true) : (l.setIfInBounds i true == l') = true := by
  rw [beq_iff_eq] at h ⊢
  apply Array.ext'
  rw [Array.toList_setIfInBounds]
  exact h
def anyT (T : Bool × List (List Nat × List Nat)) (l l' : List Bool) (i : Nat) : Bool := T.1 && freeT T.2 l i && readyAt T.2 l i && (l.set i true == l')
theorem any_of (hT : rtab md ops = T) (h : anyT T l.toList l'.toList i = true) : anyB md ops l l' i = true := by
  simp only [anyT, Bool.and_eq_true] at h
  obtain ⟨⟨⟨h1, h2⟩, h3⟩, h4⟩ := h
  have h5 := readyAt_mem h3 hT
  have h6 := set_of h4
  subst hT
  simp only [anyB, Bool.and_eq_true]
  exact ⟨⟨⟨h1, by rw [free_eq]; exact h2⟩, h5⟩, h6⟩
def takeT (T : Bool × List (List Nat × List Nat)) (ds : List Nat) (l l' : List Bool) (i : Nat) : Bool := T.1 && freeT T.2 l i && readyAt T.2 l i && closedT T.2 l && lastT T.2 l ds i && (l.set i true == l')
theorem take_of (hT : rtab md ops = T) (h : takeT T ds l.toList l'.toList i = true) : takeB md ops ds l l' i = true := by
  simp only [takeT, Bool.and_eq_true] at h
  obtain ⟨⟨⟨⟨⟨h1, h2⟩, h3⟩, h4⟩, h5⟩, h6⟩ := h
  have h7 := readyAt_mem h3 hT
  have h8 := set_of h6
  subst hT
  simp only [takeB, Bool.and_eq_true]
  exact ⟨⟨⟨⟨⟨h1, by rw [free_eq]; exact h2⟩, h7⟩, by rw [closed_eq]; exact h4⟩, by rw [last_eq]; exact h5⟩, h8⟩
theorem one_of (hT : rtab md ops = T) (h : (readyT T.2 l.toList == [i] && l.toList.set i true == l'.toList) = true) : readyB md ops l l' i = true := by
  simp only [Bool.and_eq_true] at h
  obtain ⟨h1, h2⟩ := h
  subst hT
  simp only [readyB, Bool.and_eq_true]
  exact ⟨by rw [ready_eq]; exact h1, set_of h2⟩
theorem done_of (hT : rtab md ops = T) (h : (readyT T.2 l.toList == []) = true) : (Region.ready md ops l == []) = true := by
  subst hT
  rw [ready_eq]
  exact h
def upM (B : List Nat) (d : Nat) : List Nat → Nat
  | [] => 0
  | n :: r => (2 ^ n ||| (if n < d then B.getD n 0 else 0)) ||| upM B d r
def waitsOk (T : List (List Nat × List Nat)) (B : List Nat) : Bool := (List.range T.length).all fun d => match T[d]? with
  | some r => (B.getD d 0 ||| upM B d r.1) == upM B d r.1
  | none => false
theorem upM_bit {B : List Nat} {d i : Nat} : ∀ {ns : List Nat}, (upM B d ns).testBit i = true → ∃ n ∈ ns, n = i ∨ (n < d ∧ (B.getD n 0).testBit i = true)
  | [], h => by simp [upM] at h
  | n :: r, h => by
    unfold upM at h
    rw [Nat.testBit_or, Nat.testBit_or, Bool.or_eq_true, Bool.or_eq_true] at h
    rcases h with (h | h) | h
    · rw [Nat.testBit_two_pow] at h
      exact ⟨n, List.mem_cons_self, .inl (by simpa using h)⟩
    · by_cases hn : n < d
      · rw [if_pos hn] at h
        exact ⟨n, List.mem_cons_self, .inr ⟨hn, h⟩⟩
      · rw [if_neg hn] at h
        simp at h
    · obtain ⟨m, hm, h2⟩ := upM_bit h
      exact ⟨m, List.mem_cons_of_mem _ hm, h2⟩
theorem reach_bit {T : List (List Nat × List Nat)} {B : List Nat} (hB : waitsOk T B = true) : ∀ (fuel d : Nat), d < fuel → d < T.length → (B.getD d 0).testBit i = true → reachT T i fuel d = true
  | 0, d, h, _, _ => by omega
  | fuel + 1, d, h, hd, hb => by
    have h1 := List.all_eq_true.1 hB d (List.mem_range.2 hd)
    cases hr : T[d]? with
    | none => rw [hr] at h1; simp at h1
    | some r =>
      rw [hr] at h1
      simp only [beq_iff_eq] at h1
      have h2 : (upM B d r.1).testBit i = true := by rw [← h1, Nat.testBit_or, hb, Bool.true_or]
      obtain ⟨n, hn, h3⟩ := upM_bit h2
      unfold reachT
      rw [hr]
      simp only
      rw [List.any_eq_true]
      refine ⟨n, hn, ?_⟩
      rcases h3 with rfl | ⟨h4, h5⟩
      · simp
      · rw [reach_bit hB fuel n (by omega) (by omega) h5, Bool.or_true]
def lastW (T : List (List Nat × List Nat)) (B : List Nat) (l : List Bool) (ds : List Nat) (i : Nat) : Bool := ds.all fun d => l.getD d true || (decide (d < T.length) && (B.getD d 0).testBit i)
def takeW (T : Bool × List (List Nat × List Nat)) (B : List Nat) (ds : List Nat) (l l' : List Bool) (i : Nat) : Bool := T.1 && freeT T.2 l i && readyAt T.2 l i && closedT T.2 l && lastW T.2 B l ds i && (l.set i true == l')
theorem take_ofW {B : List Nat} (hT : rtab md ops = T) (hB : waitsOk T.2 B = true) (h : takeW T B ds l.toList l'.toList i = true) : takeB md ops ds l l' i = true := by
  refine take_of hT ?_
  simp only [takeW, takeT, Bool.and_eq_true] at h ⊢
  obtain ⟨⟨⟨⟨⟨h1, h2⟩, h3⟩, h4⟩, h5⟩, h6⟩ := h
  refine ⟨⟨⟨⟨⟨h1, h2⟩, h3⟩, h4⟩, ?_⟩, h6⟩
  unfold lastW at h5
  unfold lastT
  rw [List.all_eq_true] at h5 ⊢
  intro d hd
  have h7 := h5 d hd
  rw [Bool.or_eq_true, Bool.and_eq_true, decide_eq_true_eq] at h7
  rcases h7 with h7 | ⟨h8, h9⟩
  · rw [h7, Bool.true_or]
  · rw [reach_bit hB _ d h8 h8 h9, Bool.or_true]
theorem with_tabW {P : Program} {Q : Exit → Act → World → Prop} {S : World → Prop} {n : Nat} {a : Act} {w : World} {B : List Nat} (hT : rtab md ops = T) (hB : waitsOk T.2 B = true) (h : Aside0 (rtab md ops = T) → Aside0 (waitsOk T.2 B = true) → wpAnyLast P md ops Q S ds n l a w) : wpAnyLast P md ops Q S ds n l a w := h ⟨hT⟩ ⟨hB⟩
end
def opsIn : Code → Nat → Option (Array Oper)
  | .region id ops _, k => if id == k then some ops else none
  | .seq a b, k => match opsIn a k with
    | some o => some o
    | none => opsIn b k
  | .cond _ a b, k => match opsIn a k with
    | some o => some o
    | none => opsIn b k
  | .block _ c, k => opsIn c k
  | .loop c, k => opsIn c k
  | .scope c, k => opsIn c k
  | .rangeFunc _ _ a b, k => match opsIn a k with
    | some o => some o
    | none => opsIn b k
  | _, _ => none
def opsOf (f : Func) (k : Nat) : Array Oper := ((f.body.bind fun c => opsIn c k)).getD #[]
end Go.Proofs.YtdohfjidnbhfnaaW.PrintLast

/- The references' small functions: SameInts, SameLists, in, Comp. -/
namespace Go.Proofs.Ytdohfjidnbhfnaa.Lw
open Go Go.RowKit Go.Proofs.Ytdohfjidnbhfnaa.Mem Go.Proofs.Ytdohfjidnbhfnaa.Sl Go.Proofs.YtdohfjidnbhfnaaW.PrintWords Go.Proofs.YtdohfjidnbhfnaaW.PrintLast
attribute [local go_sem ↓] Go.wp_at_zero Go.wp_at_succ
set_option linter.unusedSimpArgs false
set_option linter.unusedVariables false

def RdL (w : World) (A : Option Addr) (ls : List (List Int)) : Prop := ∀ (i : Nat) (r : List Int), ls[i]? = some r → ∃ b B c, A = some ⟨b, 0, none⟩ ∧ w.cell? ⟨b, i, none⟩ = some (.slice B r.length c) ∧ RdI w B r
theorem RdL.below {w w' : World} {A : Option Addr} {ls : List (List Int)} (h : RdL w A ls) (hb : Below w.heap.size w w') : RdL w' A ls := fun i r hr => by
  obtain ⟨b, B, c, h1, h2, h3⟩ := h i r hr
  exact ⟨b, B, c, h1, (hb.cell (p := ⟨b, i, none⟩) (World.block_lt_of_cell? w _ h2)).trans h2, h3.below hb⟩
theorem RdI.drewN {w : World} {A : Option Addr} {l : List Int} (h : RdI w A l) (k : Nat) : RdI (w.drewN k) A l := h
theorem RdL.drewN {w : World} {A : Option Addr} {ls : List (List Int)} (h : RdL w A ls) (k : Nat) : RdL (w.drewN k) A ls := h

end Go.Proofs.Ytdohfjidnbhfnaa.Lw

/- Appending what can be read to a row of one's own; Cut. -/
namespace Go.Proofs.Ytdohfjidnbhfnaa.Lw
open Go Go.RowKit Go.Proofs.Ytdohfjidnbhfnaa.Mem Go.Proofs.Ytdohfjidnbhfnaa.Sl Go.Proofs.YtdohfjidnbhfnaaW.PrintWords Go.Proofs.YtdohfjidnbhfnaaW.PrintLast
attribute [local go_sem ↓] Go.wp_at_zero Go.wp_at_succ
set_option linter.unusedSimpArgs false
set_option linter.unusedVariables false

def RdV (w : World) (v : Value) (n size : Nat) (news : List Value) : Prop :=
  news.length = n * size ∧ (∀ u ∈ news, u.oneCell' = true) ∧ ((v = .slice none 0 0 ∧ n = 0) ∨ ∃ ad c, v = .slice (some ad) n c ∧ ∀ j u, news[j]? = some u → w.cell? (ad.add j) = some u)

theorem RdV.below {w w' : World} {v : Value} {n size : Nat} {news : List Value} (h : RdV w v n size news) (hb : Below w.heap.size w w') : RdV w' v n size news := by
  refine ⟨h.1, h.2.1, h.2.2.imp id ?_⟩
  rintro ⟨ad, c, e, hc⟩
  exact ⟨ad, c, e, fun j u hu => (hb.cell (World.block_lt_of_cell? w _ (hc j u hu))).trans (hc j u hu)⟩

theorem run_append_any {P : Program} (w : World) (base : Nat) (t ty e : TypeId) (i : TypeInfo) (z : Value) (size bytes : Nat) (ht : P.underlying t = some (.slice e)) (hi : P.info? e = some i) (hz : i.zero = some z)
    (hsize : i.size = size) (hby : i.bytes = bytes) (hzs : z.cells.size = size) (hsz : 0 < size) (v : Value) (n : Nat) (xs : List Value) (hown : w.ownsRow base e size v n xs)
    (x : Value) (m : Nat) (news : List Value) (hx : RdV w x m size news) (h63 : n + m ≤ maxLen) (hbytes : (n + m) * bytes ≤ 140737488355328) (hbase : base ≤ w.heap.size) :
    ∃ v' w', (Builtin.append_ #[t, t] ty #[v, x]).run P w = .ok v' w' ∧ w'.ownsRow base e size v' (n + m) (xs ++ news) ∧ w.grownBy w' v.ownBlock ∧ (v'.ownBlock = v.ownBlock ∨ v'.ownBlock = some w.heap.size) := by
  obtain ⟨hl, h1, ⟨rfl, rfl⟩ | ⟨ad, c, rfl, hc⟩⟩ := hx
  · have hnil : news = [] := List.length_eq_zero_iff.1 (by omega)
    subst hnil
    refine ⟨v, w, run_append_owned_none (P := P) w base t ty e i size ht hi v n xs hown, ?_, ⟨rfl, rfl, rfl, Nat.le_refl _, fun _ _ _ => rfl⟩, Or.inl rfl⟩
    simpa using hown
  · obtain ⟨v', w', g1, g2, g3, _, g5⟩ := run_append_own_at (P := P) (w := w) base t ty e i z size bytes ht hi hz hsize hby hzs hsz v n xs hown ad m c news hl hc h1 h63 hbytes hbase
    exact ⟨v', w', g1, g2, g3, g5⟩

theorem step_append_any {P : Program} {w : World} {ops : Array Oper} {o : Oper} {a : Act} {K : Act → World → Prop} {Q : Exit → Act → World → Prop} {E : Prop} (hgd : o.guard = none) (s x : Operand) (t : TypeId)
    (ho : o.op = .call { callee := .builtin .append, args := #[s, x], argTypes := #[t, t] })
    (base : Nat) (e : TypeId) (i : TypeInfo) (z : Value) (size bytes : Nat) (ht : P.underlying t = some (.slice e)) (hi : P.info? e = some i) (hz : i.zero = some z)
    (hsize : i.size = size) (hby : i.bytes = bytes) (hzs : z.cells.size = size) (hsz : 0 < size) (v : Value) (n : Nat) (xs : List Value) (hs : a.eval s = v) (hown : w.ownsRow base e size v n xs)
    (xv : Value) (hxv : a.eval x = xv) (m : Nat) (news : List Value) (hx : RdV w xv m size news) (h63 : n + m ≤ maxLen) (hbytes : (n + m) * bytes ≤ 140737488355328) (hbase : base ≤ w.heap.size)
    (h : ∀ v' w', w'.ownsRow base e size v' (n + m) (xs ++ news) → w.grownBy w' v.ownBlock → (v'.ownBlock = v.ownBlock ∨ v'.ownBlock = some w.heap.size) → K (a.put o.dst v') w') :
    if Region.wanted o (yielded ops a.tmps) = true then Oper.wp P o a w K Q else E := by
  have hw : Region.wanted o (yielded ops a.tmps) = true := by simp [Region.wanted, hgd]
  rw [if_pos hw]
  obtain ⟨v', w', hr, h2, h3, h4⟩ := run_append_any (P := P) w base t o.type e i z size bytes ht hi hz hsize hby hzs hsz v n xs hown xv m news hx h63 hbytes hbase
  unfold Oper.wp execOp
  simp only [ho, resolve, invoke, builtin, Sem.run_bind, Sem.run_pure, Result.andThen_ok, List.map_toArray, List.map_cons, List.map_nil, hs, hxv, hr]
  exact h v' w' h2 h3 h4

theorem wpList_append_any {P : Program} {w : World} {ops : Array Oper} {rest : List Oper} {o : Oper} {a : Act} {Q : Exit → Act → World → Prop} (hgd : o.guard = none) (s x : Operand) (t : TypeId)
    (ho : o.op = .call { callee := .builtin .append, args := #[s, x], argTypes := #[t, t] })
    (base : Nat) (e : TypeId) (i : TypeInfo) (z : Value) (size bytes : Nat) (ht : P.underlying t = some (.slice e)) (hi : P.info? e = some i) (hz : i.zero = some z)
    (hsize : i.size = size) (hby : i.bytes = bytes) (hzs : z.cells.size = size) (hsz : 0 < size) (v : Value) (n : Nat) (xs : List Value) (hs : a.eval s = v) (hown : w.ownsRow base e size v n xs)
    (xv : Value) (hxv : a.eval x = xv) (m : Nat) (news : List Value) (hx : RdV w xv m size news) (h63 : n + m ≤ maxLen) (hbytes : (n + m) * bytes ≤ 140737488355328) (hbase : base ≤ w.heap.size)
    (h : ∀ v' w', w'.ownsRow base e size v' (n + m) (xs ++ news) → w.grownBy w' v.ownBlock → (v'.ownBlock = v.ownBlock ∨ v'.ownBlock = some w.heap.size) → wpList P ops Q rest (a.put o.dst v') w') :
    wpList P ops Q (o :: rest) a w := by
  refine wpList_plain hgd fun _ hK => ?_
  obtain ⟨v', w', hr, h2, h3, h4⟩ := run_append_any (P := P) w base t o.type e i z size bytes ht hi hz hsize hby hzs hsz v n xs hown xv m news hx h63 hbytes hbase
  unfold Oper.wp execOp
  simp only [ho, resolve, invoke, builtin, Sem.run_bind, Sem.run_pure, Result.andThen_ok, List.map_toArray, List.map_cons, List.map_nil, hs, hxv, hr]
  exact hK _ _ (h v' w' h2 h3 h4)

end Go.Proofs.Ytdohfjidnbhfnaa.Lw

/- Cut. -/
namespace Go.Proofs.Ytdohfjidnbhfnaa.Lw
open Go Go.RowKit Go.Proofs.Ytdohfjidnbhfnaa.Mem Go.Proofs.Ytdohfjidnbhfnaa.Sl Go.Proofs.YtdohfjidnbhfnaaW.PrintWords Go.Proofs.YtdohfjidnbhfnaaW.PrintLast
attribute [local go_sem ↓] Go.wp_at_zero Go.wp_at_succ
set_option linter.unusedSimpArgs false
set_option linter.unusedVariables false

def ArgV (w : World) (v : Value) (n size : Nat) (news : List Value) : Prop :=
  news.length = n * size ∧ (∀ u ∈ news, u.oneCell' = true) ∧ ((v = .slice none 0 0 ∧ n = 0) ∨ ∃ ad c, v = .slice (some ad) n c ∧ n ≤ c ∧ ∀ j u, news[j]? = some u → w.cell? (ad.add j) = some u)
theorem ArgV.rd {w : World} {v : Value} {n size : Nat} {news : List Value} (h : ArgV w v n size news) : RdV w v n size news :=
  ⟨h.1, h.2.1, h.2.2.imp id (fun ⟨ad, c, e, _, hc⟩ => ⟨ad, c, e, hc⟩)⟩

theorem ArgV.take {w : World} {A : Option Addr} {c n size m : Nat} {news : List Value} (h : ArgV w (.slice A n c) n size news) (hm : m ≤ n) : RdV w (.slice A m c) m size (news.take (m * size)) ∧ n ≤ c := by
  obtain ⟨hl, h1, h2⟩ := h
  have hlt : (news.take (m * size)).length = m * size := by
    rw [List.length_take, hl]
    exact Nat.min_eq_left (Nat.mul_le_mul_right _ hm)
  have h1' : ∀ u ∈ news.take (m * size), u.oneCell' = true := fun u hu => h1 u (List.mem_of_mem_take hu)
  rcases h2 with ⟨he, rfl⟩ | ⟨ad, c', he, hnc, hc⟩
  · cases he
    obtain rfl : m = 0 := by omega
    exact ⟨⟨hlt, h1', .inl ⟨rfl, rfl⟩⟩, Nat.le_refl _⟩
  · cases he
    refine ⟨⟨hlt, h1', .inr ⟨ad, c, rfl, fun j u hu => ?_⟩⟩, hnc⟩
    rw [List.getElem?_take] at hu
    split at hu
    · exact hc j u hu
    · cases hu

theorem RdV.lit (w : World) (a : Array Value) (T : TypeId) (n size c : Nat) (hl : a.toList.length = n * size) (h1 : ∀ u ∈ a.toList, u.oneCell' = true) : RdV (w.alloc (.cells a T)) (.slice (some ⟨w.heap.size, 0, none⟩) n c) n size a.toList := by
  refine ⟨hl, h1, .inr ⟨_, _, rfl, fun j u hu => ?_⟩⟩
  rw [add_plain]
  simpa using (At.new w a T).cell j hu

theorem own_made {w : World} {base k size : Nat} {T : TypeId} (hk : w.heap.size = k) (hb : base ≤ w.heap.size) : (w.alloc (.cells #[] T)).ownsRow base T size (.slice (some ⟨k, 0, none⟩) 0 0) 0 [] := by
  subst hk
  exact World.ownsRow_lit w #[] 0 hb (by decide) (by simp)

theorem info_int : (Try.prog.info? 3).map (fun i => (i.zero, i.size, i.bytes)) = some (some (.int .i64 0), 1, 8) := by kernel_rfl
theorem info_arc : (Try.prog.info? 38).map (fun i => (i.zero, i.size, i.bytes)) = some (some (.agg #[.int .i64 0, .int .i64 0]), 2, 16) := by kernel_rfl

structure One (w0 : World) (e : TypeId) (size : Nat) (v : Value) (n : Nat) (xs : List Value) (W : World) : Prop where
  r : W.ownsRow w0.heap.size e size v n xs
  b : Below w0.heap.size w0 W
structure Two (w0 : World) (e1 : TypeId) (s1 : Nat) (v1 : Value) (n1 : Nat) (xs1 : List Value) (e2 : TypeId) (s2 : Nat) (v2 : Value) (n2 : Nat) (xs2 : List Value) (W : World) : Prop where
  r1 : W.ownsRow w0.heap.size e1 s1 v1 n1 xs1
  r2 : W.ownsRow w0.heap.size e2 s2 v2 n2 xs2
  ne : ∀ k, v1.ownBlock = some k → v2.ownBlock ≠ some k
  b : Below w0.heap.size w0 W
section
variable {w0 w w' : World} {e e1 e2 : TypeId} {s s1 s2 : Nat} {v v1 v2 : Value} {n n1 n2 : Nat} {xs xs1 xs2 : List Value}
theorem own_mono {B B' : Nat} (h : w.ownsRow B e s v n xs) (hb : B' ≤ B) : w.ownsRow B' e s v n xs :=
  ⟨h.1, h.2.imp id fun ⟨g, cap, cur, a1, a2, a3⟩ => ⟨g, cap, cur, a1, Nat.le_trans hb a2, a3⟩⟩
theorem own_below {B : Nat} (h : w.ownsRow B e s v n xs) (hb : Below w.heap.size w w') : w'.ownsRow B e s v n xs :=
  h.kept (row := none) ⟨hb.os, hb.tape, hb.output, hb.size, fun k hk _ => hb.block k hk⟩ (by cases v.ownBlock <;> simp)
theorem One.make (h0 : Below w0.heap.size w0 w) (h : w'.ownsRow w.heap.size e s v 0 []) (hb : Below w.heap.size w w') : One w0 e s v 0 [] w' :=
  ⟨own_mono h h0.size, h0.trans (hb.mono h0.size)⟩
theorem One.below (h : One w0 e s v n xs w) (hb : Below w.heap.size w w') : One w0 e s v n xs w' := ⟨own_below h.r hb, h.b.trans (hb.mono h.b.size)⟩
theorem Two.below (h : Two w0 e1 s1 v1 n1 xs1 e2 s2 v2 n2 xs2 w) (hb : Below w.heap.size w w') : Two w0 e1 s1 v1 n1 xs1 e2 s2 v2 n2 xs2 w' := ⟨own_below h.r1 hb, own_below h.r2 hb, h.ne, h.b.trans (hb.mono h.b.size)⟩
theorem Two.swap (h : Two w0 e1 s1 v1 n1 xs1 e2 s2 v2 n2 xs2 w) : Two w0 e2 s2 v2 n2 xs2 e1 s1 v1 n1 xs1 w := ⟨h.r2, h.r1, fun k h2 h1 => h.ne k h1 h2, h.b⟩
theorem One.and (h : One w0 e1 s1 v1 n1 xs1 w) (h2 : w'.ownsRow w.heap.size e2 s2 v2 0 []) (hb : Below w.heap.size w w') (hv : v2.ownBlock = some w.heap.size) : Two w0 e1 s1 v1 n1 xs1 e2 s2 v2 0 [] w' :=
  ⟨own_below h.r hb, own_mono h2 h.b.size, fun k hk hk2 => by
    have := (h.r.lt k hk).2
    rw [hv] at hk2
    cases hk2
    omega, h.b.trans (hb.mono h.b.size)⟩
theorem One.grow (h : One w0 e s v n xs w) {v' : Value} {n' : Nat} {xs' : List Value} (ho : w'.ownsRow w0.heap.size e s v' n' xs') (hg : w.grownBy w' v.ownBlock) : One w0 e s v' n' xs' w' :=
  ⟨ho, h.b.grown hg h.b.size fun k hk => (h.r.lt k hk).1⟩
theorem Two.grow1 (h : Two w0 e1 s1 v1 n1 xs1 e2 s2 v2 n2 xs2 w) {v' : Value} {n' : Nat} {xs' : List Value} (ho : w'.ownsRow w0.heap.size e1 s1 v' n' xs') (hg : w.grownBy w' v1.ownBlock) (hn : v'.ownBlock = v1.ownBlock ∨ v'.ownBlock = some w.heap.size) :
    Two w0 e1 s1 v' n' xs' e2 s2 v2 n2 xs2 w' := by
  refine ⟨ho, h.r2.kept hg ?_, ?_, h.b.grown hg h.b.size fun k hk => (h.r1.lt k hk).1⟩
  · cases hv : v2.ownBlock with
    | none => exact .inl rfl
    | some k => exact .inr fun hh => h.ne k hh.symm hv
  · intro k hk hk2
    rcases hn with hn | hn
    · exact h.ne k (hn ▸ hk) hk2
    · rw [hn] at hk
      cases hk
      have := (h.r2.lt _ hk2).2
      omega
theorem Two.grow2 (h : Two w0 e1 s1 v1 n1 xs1 e2 s2 v2 n2 xs2 w) {v' : Value} {n' : Nat} {xs' : List Value} (ho : w'.ownsRow w0.heap.size e2 s2 v' n' xs') (hg : w.grownBy w' v2.ownBlock) (hn : v'.ownBlock = v2.ownBlock ∨ v'.ownBlock = some w.heap.size) :
    Two w0 e1 s1 v1 n1 xs1 e2 s2 v' n' xs' w' := (h.swap.grow1 ho hg hn).swap
end


end Go.Proofs.Ytdohfjidnbhfnaa.Lw

/- The plain model of scc's search: what the Go code computes, on lists of numbers alone. -/
namespace Go.Proofs.Ytdohfjidnbhfnaa.Tj
set_option linter.unusedSimpArgs false
set_option linter.unusedVariables false

structure St where
  idx : List Nat
  low : List Nat
  inn : List Bool
  opn : List Nat   -- the top first
  comp : List Nat
  cnt : Nat
  time : Nat

def enterS (S : St) (v : Nat) : St :=
  { S with time := S.time + 1, idx := S.idx.set v (S.time + 1), low := S.low.set v (S.time + 1), inn := S.inn.set v true, opn := v :: S.opn }

def popS (v cnt : Nat) : List Nat → List Bool → List Nat → Option (List Nat × List Bool × List Nat)
  | [], _, _ => none
  | w :: r, inn, comp =>
    if w < comp.length then
      (if w = v then some (r, inn.set w false, comp.set w cnt) else popS v cnt r (inn.set w false) (comp.set w cnt))
    else none

def leaveS (S : St) (v : Nat) : Option St :=
  if S.low.getD v 0 = S.idx.getD v 0 then
    (if S.cnt < 1000000 ∧ S.opn.length ≤ 1000000 then (popS v S.cnt S.opn S.inn S.comp).map fun r => { S with opn := r.1, inn := r.2.1, comp := r.2.2, cnt := S.cnt + 1 } else none)
  else some S

def fromS (n : Nat) (out : List (List Nat)) : Nat → St → List (Nat × Nat) → Option St
  | 0, _, _ => none
  | _ + 1, S, [] => some S
  | k + 1, S, (v, m) :: way =>
    if v < n then
      if m = (out.getD v []).length then
        (leaveS S v).bind fun S1 => match way with
          | [] => fromS n out k S1 []
          | (u, m') :: r => if u < n then fromS n out k { S1 with low := S1.low.set u (min (S1.low.getD u 0) (S1.low.getD v 0)) } ((u, m') :: r) else none
      else if m < (out.getD v []).length then
        if (out.getD v []).getD m 0 < n then
          if S.idx.getD ((out.getD v []).getD m 0) 0 = 0 then
            if S.time < 1000000 ∧ S.opn.length < 1000000 ∧ way.length < 1000000 then fromS n out k (enterS S ((out.getD v []).getD m 0)) (((out.getD v []).getD m 0, 0) :: (v, m + 1) :: way) else none
          else if S.inn.getD ((out.getD v []).getD m 0) false = true then
            fromS n out k { S with low := S.low.set v (min (S.low.getD v 0) (S.idx.getD ((out.getD v []).getD m 0) 0)) } ((v, m + 1) :: way)
          else fromS n out k S ((v, m + 1) :: way)
        else none
      else none
    else none

end Go.Proofs.Ytdohfjidnbhfnaa.Tj

/- The plain model of scc's comps. -/
namespace Go.Proofs.Ytdohfjidnbhfnaa.Tj

def scanS (n : Nat) (out : List (List Nat)) (k : Nat) : List Nat → St → Option St
  | [], S => some S
  | v :: r, S =>
    if S.idx.getD v 0 = 0 then
      (if S.time < 1000000 ∧ S.opn.length < 1000000 then (fromS n out k (enterS S v) [(v, 0)]).bind (scanS n out k r) else none)
    else scanS n out k r S

def renum : List Nat → List Nat → Nat → Option (List Nat × Nat)
  | [], _, next => some ([], next)
  | c :: r, number, next =>
    if c < number.length ∧ next < 1000000 ∧ number.getD c 0 ≤ 1000000 then
      (if number.getD c 0 = 0 then (renum r (number.set c (next + 1)) (next + 1)).map fun x => (next :: x.1, x.2)
       else (renum r number next).map fun x => ((number.getD c 0 - 1) :: x.1, x.2))
    else none

def st0 (n : Nat) : St := { idx := List.replicate n 0, low := List.replicate n 0, inn := List.replicate n false, opn := [], comp := List.replicate n 0, cnt := 0, time := 0 }

def compsS (n : Nat) (out : List (List Nat)) (k : Nat) : Option (List Nat × Nat) :=
  (scanS n out k (List.range n) (st0 n)).bind fun S => renum S.comp (List.replicate n 0) 0

end Go.Proofs.Ytdohfjidnbhfnaa.Tj

/- The plain model of scc's made. -/
namespace Go.Proofs.Ytdohfjidnbhfnaa.Tj

def arcsS (vs : List Int) : List (Int × Int) → List (List Nat) → Option (List (List Nat))
  | [], out => some out
  | (u, v) :: r, out =>
    if vs.contains u = true ∧ vs.contains v = true then
      arcsS vs r (out.set (vs.countP (· < u)) (out.getD (vs.countP (· < u)) [] ++ [vs.countP (· < v)]))
    else none

theorem countP_lt {l : List Int} {u : Int} (h : l.contains u = true) : l.countP (· < u) < l.length := by
  have h1 := List.countP_le_length (p := fun x => decide (x < u)) (l := l)
  rcases Nat.lt_or_ge (l.countP (· < u)) l.length with h2 | h2
  · exact h2
  · have h3 := List.countP_eq_length.1 (Nat.le_antisymm h1 h2) u (by simpa using h)
    simp at h3

end Go.Proofs.Ytdohfjidnbhfnaa.Tj

/- The plain model of scc's Of. -/
namespace Go.Proofs.Ytdohfjidnbhfnaa.Tj

end Go.Proofs.Ytdohfjidnbhfnaa.Tj

/- The plain model keeps its rows' lengths. -/
namespace Go.Proofs.Ytdohfjidnbhfnaa.Tj

structure Len (n : Nat) (S : St) : Prop where
  i : S.idx.length = n
  l : S.low.length = n
  b : S.inn.length = n
  c : S.comp.length = n

theorem Len.st0 (n : Nat) : Len n (st0 n) := by constructor <;> simp [Tj.st0]
theorem Len.enter {n : Nat} {S : St} (h : Len n S) (v : Nat) : Len n (enterS S v) := by
  constructor <;> simp [enterS, h.i, h.l, h.b, h.c]
theorem popS_len : ∀ (v cnt : Nat) (o : List Nat) (inn : List Bool) (comp : List Nat) (R : List Nat × List Bool × List Nat), popS v cnt o inn comp = some R → R.2.1.length = inn.length ∧ R.2.2.length = comp.length
  | _, _, [], _, _, _, h => by cases h
  | v, cnt, w :: r, inn, comp, R, h => by
    rw [popS] at h
    split at h
    · split at h
      · cases h; simp
      · have := popS_len v cnt r _ _ R h
        simpa using this
    · cases h
theorem Len.leave {n : Nat} {S S2 : St} (h : Len n S) {v : Nat} (h2 : leaveS S v = some S2) : Len n S2 := by
  unfold leaveS at h2
  split at h2
  · split at h2
    · cases hp : popS v S.cnt S.opn S.inn S.comp with
      | none => rw [hp] at h2; cases h2
      | some R =>
        rw [hp] at h2
        cases h2
        have := popS_len _ _ _ _ _ _ hp
        exact ⟨h.i, h.l, this.1.trans h.b, this.2.trans h.c⟩
    · cases h2
  · cases h2
    exact h
theorem Len.low {n : Nat} {S : St} (h : Len n S) (u x : Nat) : Len n { S with low := S.low.set u x } := ⟨h.i, by simpa using h.l, h.b, h.c⟩
theorem Len.from {n : Nat} {out : List (List Nat)} : ∀ (k : Nat) (S : St) (way : List (Nat × Nat)) (R : St), Len n S → fromS n out k S way = some R → Len n R
  | 0, _, _, _, _, h => by cases h
  | _ + 1, S, [], R, hS, h => by simp only [fromS] at h; cases h; exact hS
  | k + 1, S, (v, m) :: way, R, hS, h => by
    simp only [fromS] at h
    split at h
    · split at h
      · cases hl : leaveS S v with
        | none => rw [hl] at h; cases h
        | some S1 =>
          rw [hl, Option.bind_some] at h
          have h1 := hS.leave hl
          cases way with
          | nil => exact Len.from k S1 [] R h1 h
          | cons p r =>
            obtain ⟨u, m'⟩ := p
            dsimp only at h
            split at h
            · exact Len.from k _ _ R (h1.low _ _) h
            · cases h
      · split at h
        · split at h
          · split at h
            · split at h
              · exact Len.from k _ _ R (hS.enter _) h
              · cases h
            · split at h
              · exact Len.from k _ _ R (hS.low _ _) h
              · exact Len.from k _ _ R hS h
          · cases h
        · cases h
    · cases h
theorem Len.scan {n : Nat} {out : List (List Nat)} {k : Nat} : ∀ (l : List Nat) (S R : St), Len n S → scanS n out k l S = some R → Len n R
  | [], S, R, hS, h => by simp only [scanS] at h; cases h; exact hS
  | v :: r, S, R, hS, h => by
    rw [scanS] at h
    split at h
    · split at h
      · cases hf : fromS n out k (enterS S v) [(v, 0)] with
        | none => rw [hf] at h; cases h
        | some S2 =>
          rw [hf, Option.bind_some] at h
          exact Len.scan r S2 R (Len.from k _ _ _ (hS.enter v) hf) h
      · cases h
    · exact Len.scan r S R hS h
theorem renum_len : ∀ (c num : List Nat) (nx : Nat) (o : List Nat) (nx' : Nat), renum c num nx = some (o, nx') → nx ≤ 1000000 → o.length = c.length ∧ nx' ≤ 1000000
  | [], num, nx, o, nx', h, hn => by rw [renum] at h; cases h; exact ⟨rfl, hn⟩
  | c :: r, num, nx, o, nx', h, hn => by
    rw [renum] at h
    split at h
    · rename_i hc
      split at h
      · cases hr : renum r (num.set c (nx + 1)) (nx + 1) with
        | none => rw [hr] at h; cases h
        | some q =>
          rw [hr] at h
          obtain ⟨o1, n1⟩ := q
          cases h
          have := renum_len r _ _ o1 n1 hr (by omega)
          exact ⟨by simp [this.1], this.2⟩
      · cases hr : renum r num nx with
        | none => rw [hr] at h; cases h
        | some q =>
          rw [hr] at h
          obtain ⟨o1, n1⟩ := q
          cases h
          have := renum_len r _ _ o1 n1 hr hn
          exact ⟨by simp [this.1], this.2⟩
    · cases h
theorem comps_len {n : Nat} {out : List (List Nat)} {k : Nat} {comp : List Nat} {next : Nat} (h : compsS n out k = some (comp, next)) : comp.length = n ∧ next ≤ 1000000 := by
  unfold compsS at h
  cases hs : scanS n out k (List.range n) (st0 n) with
  | none => rw [hs] at h; cases h
  | some S =>
    rw [hs, Option.bind_some] at h
    have h1 := Len.scan _ _ _ (Len.st0 n) hs
    have h2 := renum_len _ _ _ _ _ h (by omega)
    exact ⟨h2.1.trans h1.c, h2.2⟩

end Go.Proofs.Ytdohfjidnbhfnaa.Tj

/- The plain model of scc.Order: heads, arcs into a component, the components that are ready. -/
namespace Go.Proofs.Ytdohfjidnbhfnaa.Tj

def insS (c : Nat) : List Nat → List Nat
  | [] => [c]
  | x :: r => if c < x then c :: x :: r else x :: insS c r
theorem mem_insS (c : Nat) : ∀ (l : List Nat) (x : Nat), x ∈ insS c l ↔ x = c ∨ x ∈ l
  | [], x => by simp [insS]
  | y :: r, x => by
    rw [insS]
    split
    · simp
    · rw [List.mem_cons, mem_insS c r, List.mem_cons]
      constructor
      · rintro (h | h | h)
        · exact .inr (.inl h)
        · exact .inl h
        · exact .inr (.inr h)
      · rintro (h | h | h)
        · exact .inr (.inl h)
        · exact .inl h
        · exact .inr (.inr h)
theorem insS_sorted (c : Nat) : ∀ (l : List Nat), l.Pairwise (· < ·) → c ∉ l → (insS c l).Pairwise (· < ·)
  | [], _, _ => by simp [insS]
  | x :: r, h, hc => by
    rw [insS]
    rw [List.pairwise_cons] at h
    split
    · rename_i hx
      rw [List.pairwise_cons, List.pairwise_cons]
      refine ⟨fun y hy => ?_, h⟩
      rcases List.mem_cons.1 hy with rfl | hy
      · exact hx
      · have := h.1 y hy; omega
    · rename_i hx
      rw [List.pairwise_cons]
      refine ⟨fun y hy => ?_, insS_sorted c r h.2 (fun h3 => hc (List.mem_cons.2 (.inr h3)))⟩
      rcases (mem_insS c r y).1 hy with rfl | hy
      · have : x ≠ y := fun he => hc (he ▸ List.mem_cons.2 (.inl rfl))
        omega
      · exact h.1 y hy


def rowO (comp : List Nat) (c : Nat) : List Nat → List Nat → List (List Nat) → Option (List Nat × List (List Nat))
  | [], into, outs => some (into, outs)
  | x :: r, into, outs =>
    match comp[x]? with
    | none => none
    | some cx =>
      if cx = c then rowO comp c r into outs
      else if (cx < into.length ∧ into.getD cx 0 < 1000000) ∧ c < outs.length ∧ (outs.getD c []).length < 1000000 then rowO comp c r (into.set cx (into.getD cx 0 + 1)) (outs.set c (outs.getD c [] ++ [cx]))
      else none

def vertsO (comp : List Nat) (sl : List Int) (out : List (List Nat)) : Nat → List Int → List Nat → List (List Nat) → Option (List Int × List Nat × List (List Nat))
  | 0, head, into, outs => some (head, into, outs)
  | v + 1, head, into, outs =>
    match comp[v]?, sl[v]?, out[v]? with
    | some c, some x, some row =>
      if c < head.length then
        match rowO comp c row into outs with
        | some (i, o) => vertsO comp sl out v (head.set c x) i o
        | none => none
      else none
    | _, _, _ => none

def seedO (into : List Nat) : Nat → Nat → List Nat → Nat → Option (List Nat × Nat)
  | 0, _, rs, came => some (rs, came)
  | k + 1, c, rs, came =>
    match into[c]? with
    | none => none
    | some 0 => if c ∉ rs ∧ came < 1000000 then seedO into k (c + 1) (insS c rs) (came + 1) else none
    | some (_ + 1) => seedO into k (c + 1) rs came

def freeO : List Nat → List Nat → List Nat → Nat → Option (List Nat × List Nat × Nat)
  | [], into, rs, came => some (into, rs, came)
  | d :: r, into, rs, came =>
    match into[d]? with
    | some (q + 1) =>
      if q < 1000000 then
        (if q = 0 then (if d ∉ rs ∧ came < 1000000 then freeO r (into.set d q) (insS d rs) (came + 1) else none)
        else freeO r (into.set d q) rs came)
      else none
    | _ => none

def loopO (head : List Int) (outs : List (List Nat)) : Nat → List Nat → List Nat → Nat → List Int → Option (List Int)
  | 0, _, _, _, _ => none
  | _ + 1, _, [], _, told => some told
  | k + 1, into, c :: rs, came, told =>
    match head[c]?, outs[c]? with
    | some h, some row =>
      if told.length < 1000000 ∧ came < 1000000 then
        match freeO row into rs came with
        | some (i, r, m) => loopO head outs k i r m (told ++ [h])
        | none => none
      else none
    | _, _ => none

def orderS (l : List Int) (arcs : List (Int × Int)) (sl : List Int) (k : Nat) : Option (Nat × List Int) :=
  if (Lib.compact sl).length = l.length then
    match arcsS sl arcs (List.replicate l.length []) with
    | none => some (5, [])
    | some out =>
      (compsS l.length out k).bind fun cn => (vertsO cn.1 sl out l.length (List.replicate cn.2 0) (List.replicate cn.2 0) (List.replicate cn.2 [])).bind fun hio =>
        (seedO hio.2.1 cn.2 0 [] 0).bind fun rc => (loopO hio.1 hio.2.2 k hio.2.1 rc.1 rc.2 []).map fun told => (0, told)
  else some (2, [])

def acyB (arcs : List (Int × Int)) (m n : Nat) : Bool := if arcs.all (fun p => decide (p.1 ≠ p.2)) = true then decide (m = n) else false

def acyS (l : List Int) (arcs : List (Int × Int)) (sl : List Int) (k : Nat) : Option (Nat × Bool) :=
  if (Lib.compact sl).length = l.length then
    match arcsS sl arcs (List.replicate l.length []) with
    | none => some (5, false)
    | some out => (compsS l.length out k).map fun c => (0, acyB arcs c.2 l.length)
  else some (2, false)

theorem rowO_length {comp : List Nat} {c : Nat} : ∀ (r into : List Nat) (outs : List (List Nat)) (I : List Nat) (O : List (List Nat)), rowO comp c r into outs = some (I, O) → I.length = into.length ∧ O.length = outs.length
  | [], into, outs, I, O, h => by cases h; exact ⟨rfl, rfl⟩
  | x :: r, into, outs, I, O, h => by
    rw [rowO] at h
    split at h
    · cases h
    · split at h
      · exact rowO_length r into outs I O h
      · split at h
        · have := rowO_length r _ _ I O h
          simpa using this
        · cases h
theorem vertsO_length {comp : List Nat} {sl : List Int} {out : List (List Nat)} : ∀ (k : Nat) (head : List Int) (into : List Nat) (outs : List (List Nat)) (H : List Int) (I : List Nat) (O : List (List Nat)), vertsO comp sl out k head into outs = some (H, I, O) → H.length = head.length ∧ I.length = into.length ∧ O.length = outs.length
  | 0, head, into, outs, H, I, O, h => by cases h; exact ⟨rfl, rfl, rfl⟩
  | v + 1, head, into, outs, H, I, O, h => by
    rw [vertsO] at h
    split at h
    · split at h
      · split at h
        · rename_i hr
          have h1 := vertsO_length v _ _ _ H I O h
          have h2 := rowO_length _ _ _ _ _ hr
          simp only [List.length_set] at h1
          omega
        · cases h
      · cases h
    · cases h

end Go.Proofs.Ytdohfjidnbhfnaa.Tj
