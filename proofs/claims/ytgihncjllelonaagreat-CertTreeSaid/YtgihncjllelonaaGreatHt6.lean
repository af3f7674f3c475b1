/- The plain model of scc's search: what the Go code computes, on lists of numbers alone. -/
import Derived.Lib.SlicesCompact
import Derived.Test.YtgihncjllelonaaGreatProg
import Derived.Test.YtgihncjllelonaaGreatHt1
import Derived.KernelRfl
import Derived.Deep.RegionHeld3
import Derived.Deep.DrawnRows
import Derived.BigRegion
import Derived.Outline
import Derived.WalkLawsBesides
import Derived.WalkSpells
import Derived.Lib.Hide
import Derived.Test.YtgihncjllelonaaGreatHt5
import Derived.Test.YtgihncjllelonaaGreatHt2
import Derived.Test.YtgihncjllelonaaGreatHt4
namespace Go.Proofs.YtgihncjllelonaaGreat.Tj
set_option linter.unusedSimpArgs false
set_option linter.unusedVariables false

structure St where
  idx : List Nat
  low : List Nat
  inn : List Bool
  opn : List Nat   -- the top first
  comp : List Nat
  cnt : Nat
  time : Nat

def enterS (S : St) (v : Nat) : St :=
  { S with time := S.time + 1, idx := S.idx.set v (S.time + 1), low := S.low.set v (S.time + 1), inn := S.inn.set v true, opn := v :: S.opn }

def popS (v cnt : Nat) : List Nat → List Bool → List Nat → Option (List Nat × List Bool × List Nat)
  | [], _, _ => none
  | w :: r, inn, comp =>
    if w < comp.length then
      (if w = v then some (r, inn.set w false, comp.set w cnt) else popS v cnt r (inn.set w false) (comp.set w cnt))
    else none

def leaveS (S : St) (v : Nat) : Option St :=
  if S.low.getD v 0 = S.idx.getD v 0 then
    (if S.cnt < 1000000 ∧ S.opn.length ≤ 1000000 then (popS v S.cnt S.opn S.inn S.comp).map fun r => { S with opn := r.1, inn := r.2.1, comp := r.2.2, cnt := S.cnt + 1 } else none)
  else some S

def fromS (n : Nat) (out : List (List Nat)) : Nat → St → List (Nat × Nat) → Option St
  | 0, _, _ => none
  | _ + 1, S, [] => some S
  | k + 1, S, (v, m) :: way =>
    if v < n then
      if m = (out.getD v []).length then
        (leaveS S v).bind fun S1 => match way with
          | [] => fromS n out k S1 []
          | (u, m') :: r => if u < n then fromS n out k { S1 with low := S1.low.set u (min (S1.low.getD u 0) (S1.low.getD v 0)) } ((u, m') :: r) else none
      else if m < (out.getD v []).length then
        if (out.getD v []).getD m 0 < n then
          if S.idx.getD ((out.getD v []).getD m 0) 0 = 0 then
            if S.time < 1000000 ∧ S.opn.length < 1000000 ∧ way.length < 1000000 then fromS n out k (enterS S ((out.getD v []).getD m 0)) (((out.getD v []).getD m 0, 0) :: (v, m + 1) :: way) else none
          else if S.inn.getD ((out.getD v []).getD m 0) false = true then
            fromS n out k { S with low := S.low.set v (min (S.low.getD v 0) (S.idx.getD ((out.getD v []).getD m 0) 0)) } ((v, m + 1) :: way)
          else fromS n out k S ((v, m + 1) :: way)
        else none
      else none
    else none

end Go.Proofs.YtgihncjllelonaaGreat.Tj

/- The plain model of scc's comps. -/
namespace Go.Proofs.YtgihncjllelonaaGreat.Tj

def scanS (n : Nat) (out : List (List Nat)) (k : Nat) : List Nat → St → Option St
  | [], S => some S
  | v :: r, S =>
    if S.idx.getD v 0 = 0 then
      (if S.time < 1000000 ∧ S.opn.length < 1000000 then (fromS n out k (enterS S v) [(v, 0)]).bind (scanS n out k r) else none)
    else scanS n out k r S

def renum : List Nat → List Nat → Nat → Option (List Nat × Nat)
  | [], _, next => some ([], next)
  | c :: r, number, next =>
    if c < number.length ∧ next < 1000000 ∧ number.getD c 0 ≤ 1000000 then
      (if number.getD c 0 = 0 then (renum r (number.set c (next + 1)) (next + 1)).map fun x => (next :: x.1, x.2)
       else (renum r number next).map fun x => ((number.getD c 0 - 1) :: x.1, x.2))
    else none

def st0 (n : Nat) : St := { idx := List.replicate n 0, low := List.replicate n 0, inn := List.replicate n false, opn := [], comp := List.replicate n 0, cnt := 0, time := 0 }

def compsS (n : Nat) (out : List (List Nat)) (k : Nat) : Option (List Nat × Nat) :=
  (scanS n out k (List.range n) (st0 n)).bind fun S => renum S.comp (List.replicate n 0) 0

end Go.Proofs.YtgihncjllelonaaGreat.Tj

/- The plain model of scc's made. -/
namespace Go.Proofs.YtgihncjllelonaaGreat.Tj

def arcsS (vs : List Int) : List (Int × Int) → List (List Nat) → Option (List (List Nat))
  | [], out => some out
  | (u, v) :: r, out =>
    if vs.contains u = true ∧ vs.contains v = true then
      arcsS vs r (out.set (vs.countP (· < u)) (out.getD (vs.countP (· < u)) [] ++ [vs.countP (· < v)]))
    else none

theorem countP_lt {l : List Int} {u : Int} (h : l.contains u = true) : l.countP (· < u) < l.length := by
  have h1 := List.countP_le_length (p := fun x => decide (x < u)) (l := l)
  rcases Nat.lt_or_ge (l.countP (· < u)) l.length with h2 | h2
  · exact h2
  · have h3 := List.countP_eq_length.1 (Nat.le_antisymm h1 h2) u (by simpa using h)
    simp at h3

end Go.Proofs.YtgihncjllelonaaGreat.Tj

/- The plain model of scc's Of. -/
namespace Go.Proofs.YtgihncjllelonaaGreat.Tj

def groupL : List Nat → List Int → List (List Int) → Option (List (List Int))
  | c :: r, x :: xs, out => if c < out.length then groupL r xs (out.set c (out.getD c [] ++ [x])) else none
  | _, _, out => some out

theorem groupL_length : ∀ (cs : List Nat) (xs : List Int) (out ls : List (List Int)), groupL cs xs out = some ls → ls.length = out.length
  | [], _, out, ls, h => by rw [groupL.eq_2] at h; cases h; rfl; intros; simp_all
  | _ :: _, [], out, ls, h => by rw [groupL.eq_2] at h; cases h; rfl; intros; simp_all
  | c :: r, x :: xs, out, ls, h => by
    rw [groupL] at h
    split at h
    · have := groupL_length r xs _ ls h
      simpa using this
    · cases h

def ofS (l : List Int) (arcs : List (Int × Int)) (sl : List Int) (k : Nat) : Option (Nat × List (List Int)) :=
  if (Lib.compact sl).length = l.length then
    match arcsS sl arcs (List.replicate l.length []) with
    | none => some (5, [])
    | some out => (compsS l.length out k).bind fun c => (groupL c.1 sl (List.replicate c.2 [])).map fun ls => (0, ls)
  else some (2, [])

end Go.Proofs.YtgihncjllelonaaGreat.Tj

/- The plain model keeps its rows' lengths. -/
namespace Go.Proofs.YtgihncjllelonaaGreat.Tj

structure Len (n : Nat) (S : St) : Prop where
  i : S.idx.length = n
  l : S.low.length = n
  b : S.inn.length = n
  c : S.comp.length = n

theorem Len.st0 (n : Nat) : Len n (st0 n) := by constructor <;> simp [Tj.st0]
theorem Len.enter {n : Nat} {S : St} (h : Len n S) (v : Nat) : Len n (enterS S v) := by
  constructor <;> simp [enterS, h.i, h.l, h.b, h.c]
theorem popS_len : ∀ (v cnt : Nat) (o : List Nat) (inn : List Bool) (comp : List Nat) (R : List Nat × List Bool × List Nat), popS v cnt o inn comp = some R → R.2.1.length = inn.length ∧ R.2.2.length = comp.length
  | _, _, [], _, _, _, h => by cases h
  | v, cnt, w :: r, inn, comp, R, h => by
    rw [popS] at h
    split at h
    · split at h
      · cases h; simp
      · have := popS_len v cnt r _ _ R h
        simpa using this
    · cases h
theorem Len.leave {n : Nat} {S S2 : St} (h : Len n S) {v : Nat} (h2 : leaveS S v = some S2) : Len n S2 := by
  unfold leaveS at h2
  split at h2
  · split at h2
    · cases hp : popS v S.cnt S.opn S.inn S.comp with
      | none => rw [hp] at h2; cases h2
      | some R =>
        rw [hp] at h2
        cases h2
        have := popS_len _ _ _ _ _ _ hp
        exact ⟨h.i, h.l, this.1.trans h.b, this.2.trans h.c⟩
    · cases h2
  · cases h2
    exact h
theorem Len.low {n : Nat} {S : St} (h : Len n S) (u x : Nat) : Len n { S with low := S.low.set u x } := ⟨h.i, by simpa using h.l, h.b, h.c⟩
theorem Len.from {n : Nat} {out : List (List Nat)} : ∀ (k : Nat) (S : St) (way : List (Nat × Nat)) (R : St), Len n S → fromS n out k S way = some R → Len n R
  | 0, _, _, _, _, h => by cases h
  | _ + 1, S, [], R, hS, h => by simp only [fromS] at h; cases h; exact hS
  | k + 1, S, (v, m) :: way, R, hS, h => by
    simp only [fromS] at h
    split at h
    · split at h
      · cases hl : leaveS S v with
        | none => rw [hl] at h; cases h
        | some S1 =>
          rw [hl, Option.bind_some] at h
          have h1 := hS.leave hl
          cases way with
          | nil => exact Len.from k S1 [] R h1 h
          | cons p r =>
            obtain ⟨u, m'⟩ := p
            dsimp only at h
            split at h
            · exact Len.from k _ _ R (h1.low _ _) h
            · cases h
      · split at h
        · split at h
          · split at h
            · split at h
              · exact Len.from k _ _ R (hS.enter _) h
              · cases h
            · split at h
              · exact Len.from k _ _ R (hS.low _ _) h
              · exact Len.from k _ _ R hS h
          · cases h
        · cases h
    · cases h
theorem Len.scan {n : Nat} {out : List (List Nat)} {k : Nat} : ∀ (l : List Nat) (S R : St), Len n S → scanS n out k l S = some R → Len n R
  | [], S, R, hS, h => by simp only [scanS] at h; cases h; exact hS
  | v :: r, S, R, hS, h => by
    rw [scanS] at h
    split at h
    · split at h
      · cases hf : fromS n out k (enterS S v) [(v, 0)] with
        | none => rw [hf] at h; cases h
        | some S2 =>
          rw [hf, Option.bind_some] at h
          exact Len.scan r S2 R (Len.from k _ _ _ (hS.enter v) hf) h
      · cases h
    · exact Len.scan r S R hS h
theorem renum_len : ∀ (c num : List Nat) (nx : Nat) (o : List Nat) (nx' : Nat), renum c num nx = some (o, nx') → nx ≤ 1000000 → o.length = c.length ∧ nx' ≤ 1000000
  | [], num, nx, o, nx', h, hn => by rw [renum] at h; cases h; exact ⟨rfl, hn⟩
  | c :: r, num, nx, o, nx', h, hn => by
    rw [renum] at h
    split at h
    · rename_i hc
      split at h
      · cases hr : renum r (num.set c (nx + 1)) (nx + 1) with
        | none => rw [hr] at h; cases h
        | some q =>
          rw [hr] at h
          obtain ⟨o1, n1⟩ := q
          cases h
          have := renum_len r _ _ o1 n1 hr (by omega)
          exact ⟨by simp [this.1], this.2⟩
      · cases hr : renum r num nx with
        | none => rw [hr] at h; cases h
        | some q =>
          rw [hr] at h
          obtain ⟨o1, n1⟩ := q
          cases h
          have := renum_len r _ _ o1 n1 hr hn
          exact ⟨by simp [this.1], this.2⟩
    · cases h
theorem comps_len {n : Nat} {out : List (List Nat)} {k : Nat} {comp : List Nat} {next : Nat} (h : compsS n out k = some (comp, next)) : comp.length = n ∧ next ≤ 1000000 := by
  unfold compsS at h
  cases hs : scanS n out k (List.range n) (st0 n) with
  | none => rw [hs] at h; cases h
  | some S =>
    rw [hs, Option.bind_some] at h
    have h1 := Len.scan _ _ _ (Len.st0 n) hs
    have h2 := renum_len _ _ _ _ _ h (by omega)
    exact ⟨h2.1.trans h1.c, h2.2⟩

end Go.Proofs.YtgihncjllelonaaGreat.Tj

/- The plain model of scc.Order: heads, arcs into a component, the components that are ready. -/
namespace Go.Proofs.YtgihncjllelonaaGreat.Tj

end Go.Proofs.YtgihncjllelonaaGreat.Tj

/- scc.search in memory, and what enter does. -/
namespace Go.Proofs.YtgihncjllelonaaGreat.Scc
set_option linter.unusedSimpArgs false
set_option linter.unusedVariables false
open Go Go.RowKit Go.Proofs.YtgihncjllelonaaGreat.Mem Go.Proofs.YtgihncjllelonaaGreat.Tj
attribute [local go_sem ↓] Go.wp_at_zero Go.wp_at_succ

theorem info_int : (Tryz.prog.info? 3).map (fun i => (i.zero, i.size, i.bytes)) = some (some (.int .i64 0), 1, 8) := by kernel_rfl

structure Srch (w : World) (base gs gg bi bl bn bc n : Nat) (ov : Value) (S : St) : Prop where
  hs : At w gs [.pointer (some ⟨gg, 0, none⟩), .slice (some ⟨bi, 0, none⟩) n n, .slice (some ⟨bl, 0, none⟩) n n, .slice (some ⟨bn, 0, none⟩) n n, ov, .slice (some ⟨bc, 0, none⟩) n n, (.int .i64 (S.cnt : Int)), (.int .i64 (S.time : Int))] 200
  hi : At w bi (nats S.idx) 3
  hl : At w bl (nats S.low) 3
  hn : At w bn (bls S.inn) 4
  hc : At w bc (nats S.comp) 3
  ho : w.ownsRow base 3 1 ov S.opn.length (nats S.opn.reverse)
  hil : S.idx.length = n
  hll : S.low.length = n
  hnl : S.inn.length = n
  hcl : S.comp.length = n

structure Lie (G base gs bi bl bn bc : Nat) : Prop where
  a1 : G ≤ gs
  a2 : G ≤ bi
  a3 : G ≤ bl
  a4 : G ≤ bn
  a5 : G ≤ bc
  b1 : gs < base
  b2 : bi < base
  b3 : bl < base
  b4 : bn < base
  b5 : bc < base
  n1 : gs ≠ bi
  n2 : gs ≠ bl
  n3 : gs ≠ bn
  n4 : gs ≠ bc
  n5 : bi ≠ bl
  n6 : bi ≠ bn
  n7 : bi ≠ bc
  n8 : bl ≠ bn
  n9 : bl ≠ bc
  n10 : bn ≠ bc

structure Ext (G : Nat) (w w' : World) : Prop where
  below : Below G w w'
  way : ∀ k cs, At w k cs 235 → At w' k cs 235

theorem Ext.refl (G : Nat) (w : World) : Ext G w w := ⟨Below.refl G w, fun _ _ h => h⟩
theorem Ext.trans {G : Nat} {a b c : World} (h : Ext G a b) (k : Ext G b c) : Ext G a c := ⟨h.below.trans k.below, fun _ _ x => k.way _ _ (h.way _ _ x)⟩
theorem Ext.drew {G : Nat} {a b : World} (h : Ext G a b) : Ext G a b.drew := ⟨h.below.drew, h.way⟩
theorem Ext.drewN {G : Nat} {a b : World} (h : Ext G a b) (n : Nat) : Ext G a (b.drewN n) := ⟨below_drewN h.below n, h.way⟩
theorem Ext.alloc {G : Nat} {a b : World} (h : Ext G a b) (hG : G ≤ b.heap.size) (o : Obj) : Ext G a (b.alloc o) := ⟨h.below.alloc hG o, fun k cs x => (h.way k cs x).alloc o⟩
theorem Ext.set {G : Nat} {a b : World} (h : Ext G a b) {g : Nat} {cs : List Value} {T : TypeId} (hg : At b g cs T) (hG : G ≤ g) (hT : 235 ≠ T) (i : Nat) (u : Value) : Ext G a (b.setCell ⟨g, i, none⟩ u) :=
  ⟨h.below.setCell hG u, fun k cs' x => (h.way k cs' x).far ((h.way k cs' x).ne hg hT) u⟩
theorem Ext.grown {G : Nat} {a b c : World} (h : Ext G a b) {base n : Nat} {v : Value} {xs : List Value} (ho : b.ownsRow base 3 1 v n xs) (hg : b.grownBy c v.ownBlock) (hb : G ≤ base) (hG : G ≤ b.heap.size) : Ext G a c :=
  ⟨h.below.grown hg hG (fun k hk => Nat.le_trans hb (ho.lt k hk).1), fun k cs x => (h.way k cs x).grown hg (own_off ho (h.way k cs x) (by decide))⟩

theorem Srch.beside {w : World} {base gs gg bi bl bn bc n : Nat} {ov : Value} {S : St} {G : Nat} (h : Srch w base gs gg bi bl bn bc n ov S) (L : Lie G base gs bi bl bn bc) {k i : Nat} (hk : base ≤ k) (ho : some k ≠ ov.ownBlock) (u : Value) :
    Srch (w.setCell ⟨k, i, none⟩ u) base gs gg bi bl bn bc n ov S :=
  have := L.b1; have := L.b2; have := L.b3; have := L.b4; have := L.b5
  ⟨h.hs.off (by omega), h.hi.off (by omega), h.hl.off (by omega), h.hn.off (by omega), h.hc.off (by omega), ownsRow_setCell_other h.ho (fun e => ho e.symm) u, h.hil, h.hll, h.hnl, h.hcl⟩
theorem Srch.drewN {w : World} {base gs gg bi bl bn bc n : Nat} {ov : Value} {S : St} (h : Srch w base gs gg bi bl bn bc n ov S) (k : Nat) : Srch (w.drewN k) base gs gg bi bl bn bc n ov S :=
  ⟨h.hs, h.hi, h.hl, h.hn, h.hc, h.ho, h.hil, h.hll, h.hnl, h.hcl⟩
theorem Srch.drew {w : World} {base gs gg bi bl bn bc n : Nat} {ov : Value} {S : St} (h : Srch w base gs gg bi bl bn bc n ov S) : Srch w.drew base gs gg bi bl bn bc n ov S :=
  ⟨h.hs, h.hi, h.hl, h.hn, h.hc, h.ho, h.hil, h.hll, h.hnl, h.hcl⟩
theorem Srch.alloc {w : World} {base gs gg bi bl bn bc n : Nat} {ov : Value} {S : St} (h : Srch w base gs gg bi bl bn bc n ov S) (o : Obj) : Srch (w.alloc o) base gs gg bi bl bn bc n ov S :=
  ⟨h.hs.alloc o, h.hi.alloc o, h.hl.alloc o, h.hn.alloc o, h.hc.alloc o, h.ho.alloc o, h.hil, h.hll, h.hnl, h.hcl⟩
theorem Srch.grownWay {w w' : World} {base gs gg bi bl bn bc n m : Nat} {ov v : Value} {S : St} {G : Nat} {xs : List Value} (h : Srch w base gs gg bi bl bn bc n ov S) (L : Lie G base gs bi bl bn bc) (ho : w.ownsRow base 235 2 v m xs) (hg : w.grownBy w' v.ownBlock) :
    Srch w' base gs gg bi bl bn bc n ov S :=
  ⟨h.hs.grown hg (own_under ho L.b1), h.hi.grown hg (own_under ho L.b2), h.hl.grown hg (own_under ho L.b3), h.hn.grown hg (own_under ho L.b4), h.hc.grown hg (own_under ho L.b5),
    h.ho.kept hg (own_apart h.ho ho (by decide)), h.hil, h.hll, h.hnl, h.hcl⟩
theorem Ext.fresh {G : Nat} {a b : World} (h : Ext G a b) {k : Nat} (hk : a.heap.size ≤ k) (hG : G ≤ k) (i : Nat) (u : Value) : Ext G a (b.setCell ⟨k, i, none⟩ u) :=
  ⟨h.below.setCell hG u, fun k' cs x => (h.way k' cs x).off (by have := x.lt; omega)⟩

end Go.Proofs.YtgihncjllelonaaGreat.Scc

/- (*search).enter. -/
namespace Go.Proofs.YtgihncjllelonaaGreat.Scc
open Go Go.RowKit Go.Proofs.YtgihncjllelonaaGreat.Mem Go.Proofs.YtgihncjllelonaaGreat.Tj Go.Proofs.YtgihncjllelonaaGreatW.PrintWords Go.Proofs.YtgihncjllelonaaGreatW.PrintLast
attribute [local go_sem ↓] Go.wp_at_zero Go.wp_at_succ
set_option linter.unusedSimpArgs false
set_option linter.unusedVariables false

def tb141_3.T3 : Bool × List (List Nat × List Nat) := (true, [([], []), ([], []), ([1], [1]), ([2], [2]), ([3], [3]), ([], []), ([], []), ([6], [6]), ([7], [7]), ([8], [8]), ([], []), ([10], [10]), ([9, 11], [9, 11]), ([0, 0, 4, 6, 7, 8, 9, 10, 11, 12], [0]), ([13, 0, 4, 6, 7, 8, 9, 10, 11, 12], [13]), ([14, 12, 12, 0, 4, 6, 7, 8, 9, 10, 11, 12], [12, 14]), ([4, 5, 0, 1, 2, 3, 4, 5, 6, 7, 8, 9, 10, 11, 12, 13, 14, 15], [4, 5]), ([16, 15, 0, 1, 2, 3, 4, 5, 6, 7, 8, 9, 10, 11, 12, 13, 14, 15], [16])])
def tb141_3.B3 : List Nat := [0, 0, 2, 6, 14, 0, 0, 64, 192, 448, 0, 1024, 4032, 8159, 16351, 32735, 65535, 131071]
theorem tb141_3.tab3 : rtab .any (opsOf Tryz.f141 3) = tb141_3.T3 := by kernel_rfl
theorem tb141_3.bits3 : waitsOk tb141_3.T3.2 tb141_3.B3 = true := by kernel_rfl
def EnterPost (w : World) (G base gs gg bi bl bn bc n : Nat) (S : St) (v : Nat) (w' : World) : Prop := ∃ ov', Srch w' base gs gg bi bl bn bc n ov' (enterS S v) ∧ Ext G w w'

set_option maxHeartbeats 2000000 in
set_option maxRecDepth 100000 in
theorem enter_calls (w : World) (G base gs gg bi bl bn bc n v : Nat) (ov : Value) (S : St) (hS : Srch w base gs gg bi bl bn bc n ov S) (L : Lie G base gs bi bl bn bc)
    (hv : v < n) (hn : n ≤ 1000000) (ht : S.time < 1000000) (hl : S.opn.length < 1000000) (hb : base ≤ w.heap.size) :
    Calls Tryz.prog 141 #[.pointer (some ⟨gs, 0, none⟩), .int .i64 v] w fun e w' => e = .returned (.agg #[.int .i64 v, .int .i64 0]) ∧ EnterPost w G base gs gg bi bl bn bc n S v w' := by
  have p0 : (0 : Int) ≤ (v : Int) := by omega
  have p1 : (v : Int) < (n : Int) := by omega
  have t0 : (0 : Int) ≤ (S.time : Int) := by omega
  have t1 : (S.time : Int) ≤ 1000000 := by omega
  have HS := Lib.hid hS
  have HL := Lib.hid L
  have HBW := Lib.hid hb
  have hs := hS.hs
  have hi := hS.hi
  have hlo := hS.hl
  have c1 := hs.cell 1 rfl
  have c2 := hs.cell 2 rfl
  have c7 := hs.cell 7 rfl
  have f7 := hs.free 7
  obtain ⟨iv, hiv⟩ : ∃ iv, S.idx[v]? = some iv := ⟨_, List.getElem?_eq_getElem (by rw [hS.hil]; exact hv)⟩
  obtain ⟨lv, hlv⟩ : ∃ lv, S.low[v]? = some lv := ⟨_, List.getElem?_eq_getElem (by rw [hS.hll]; exact hv)⟩
  obtain ⟨nv, hnv⟩ : ∃ nv, S.inn[v]? = some nv := ⟨_, List.getElem?_eq_getElem (by rw [hS.hnl]; exact hv)⟩
  have ci := hi.cell v (nats_at _ hiv)
  have fi := hi.free v
  have cl := hlo.cell v (nats_at _ hlv)
  have fl := hlo.free v
  have HNV := Lib.hid hnv
  clear hiv hlv hnv
  have n1 := L.n1
  have n2 := L.n2
  have n5 := L.n5
  have l1 := hs.lt
  have l2 := hi.lt
  have l3 := hlo.lt
  have q1 := Nat.ne_of_lt l1
  have q2 := Nat.ne_of_lt l2
  have q3 := Nat.ne_of_lt l3
  clear hs hi hlo hS L
  go_enter Tryz.func141, Tryz.ntmps141
  go_wp2
  go_region
  go_wp2
  have hS := HS.out
  have L := HL.out
  obtain ⟨rb, hrb⟩ : ∃ rb, rb = w.heap.size := ⟨_, rfl⟩
  refine gen_world (fun W => At W gs [.pointer (some ⟨gg, 0, none⟩), .slice (some ⟨bi, 0, none⟩) n n, .slice (some ⟨bl, 0, none⟩) n n, .slice (some ⟨bn, 0, none⟩) n n, ov, .slice (some ⟨bc, 0, none⟩) n n, .int .i64 (S.cnt : Int), .int .i64 ((S.time + 1 : Nat) : Int)] 200 ∧
    At W bi (nats (S.idx.set v (S.time + 1))) 3 ∧ At W bl (nats (S.low.set v (S.time + 1))) 3 ∧ At W bn (bls S.inn) 4 ∧ At W bc (nats S.comp) 3 ∧
    W.ownsRow base 3 1 ov S.opn.length (nats S.opn.reverse) ∧ Ext G w W ∧ At W w.heap.size [.int .i64 0, .int .i64 0] 235 ∧ base ≤ W.heap.size) ?_ ?_
  · refine ⟨?_, ?_, ?_, ?_, ?_, ?_, ?_, ?_, ?_⟩
    · exact (((hS.hs.put rfl).off L.n1).off L.n2).al.drew
    · exact (((hS.hi.off L.n1.symm).put (nats_set _ _ _).symm).off L.n5).al.drew
    · exact (((hS.hl.off L.n2.symm).off L.n5.symm).put (nats_set _ _ _).symm).al.drew
    · exact (((hS.hn.off L.n3.symm).off L.n6.symm).off L.n8.symm).al.drew
    · exact (((hS.hc.off L.n4.symm).off L.n7.symm).off L.n9.symm).al.drew
    · exact ((((hS.ho.setB L.b1).setB L.b2).setB L.b3).alloc _).drew
    · refine Ext.drew (Ext.alloc ?_ (by simp; have := L.a1; have := L.b1; omega) _)
      refine Ext.set (Ext.set (Ext.set (Ext.refl G w) hS.hs L.a1 (by decide) _ _) (hS.hi.off L.n1.symm) L.a2 (by decide) _ _) ((hS.hl.off L.n2.symm).off L.n5.symm) L.a3 (by decide) _ _
    · exact (At.made (by simp) rfl).drew
    · simp; omega
  clear hS L c1 c2 c7 f7 ci fi cl fl l1 l2 l3 q1 q2 q3 hb
  rintro W ⟨hs, hi, hlo, hin, hc, ho, he, hr, hb⟩
  have c3 := hs.cell 3 rfl
  have c4 := hs.cell 4 rfl
  have f4 := hs.free 4
  have cn := hin.cell v (bls_at _ HNV.out)
  have fn := hin.free v
  have c0r := hr.cell 0 rfl
  have c1r := hr.cell 1 rfl
  have f0r := hr.free 0
  have f1r := hr.free 1
  have n3 := HL.out.n3
  have l1 := hs.lt
  have l4 := hin.lt
  have q1 := Nat.ne_of_lt l1
  have q4 := Nat.ne_of_lt l4
  obtain ⟨i0, hi0, hz0, hz1, hz2⟩ := info_parts info_int
  have HO := Lib.hid ho
  have HIN := Lib.hid hin
  have HS2 := Lib.hid hs
  have HB := Lib.hid hb
  have HR := Lib.hid hr
  have HI2 := Lib.hid hi
  have HLO := Lib.hid hlo
  have HC := Lib.hid hc
  have HE := Lib.hid he
  clear hi hlo hc he ho hin hs hb hr
  refine start_ (n := 18) (S := fun w' => w'.cell? ⟨gs, 3, none⟩ = some (.slice (some ⟨bn, 0, none⟩) n n) ∧ w'.cell? ⟨gs, 4, none⟩ = some ov) (ds := [15, 17]) (bA 18 0) (by kernel_rfl) rfl rfl ⟨(HS2.out.drew.cell 3 rfl), (HS2.out.drew.cell 4 rfl)⟩ (fun hHeld => ?_)
  refine with_tabW tb141_3.tab3 tb141_3.bits3 (fun HT_ HW_ => ?_)
  refine pw_ 0 32 (bA 18 1) HT_.out ?_
  refine pw_ 1 33 (bA 18 3) HT_.out ?_
  refine pw_ 2 34 (bA 18 7) HT_.out ?_
  refine pw_ 3 35 (bA 18 15) HT_.out ?_
  refine pw_ 5 37 (bA 18 47) HT_.out ?_
  refine pw_ 6 38 (bA 18 111) HT_.out ?_
  refine pw_ 7 39 (bA 18 239) HT_.out ?_
  refine pw_ 8 40 (bA 18 495) HT_.out ?_
  refine pw_ 10 42 (bA 18 1519) HT_.out ?_
  refine tw_ 4 36 (bA 18 1535) HT_.out HW_.out hHeld (hv := by rintro w' ⟨s0, s1⟩; go_simp; with_reducible rfl) (h := ?_)
  refine tw_ 9 41 (bA 18 2047) HT_.out HW_.out hHeld (hv := by rintro w' ⟨s0, s1⟩; go_simp; with_reducible rfl) (h := ?_)
  refine one_ (i := 11) (N := some 43) (bA 18 4095) rfl rfl (one_of HT_.out (by kernel_rfl)) (by decide) (fun K hK => ?_)
  refine value_ (w1 := ?_) (v := ?_) (by rfl) rfl ?_ ?_
  rotate_left 2
  · go_simp
    constructor
    · rfl
    · rfl
  refine hK.out _ _ ⟨(HS2.out.al.drew.cell 3 rfl), (HS2.out.al.drew.cell 4 rfl)⟩ (fun hHeld => ?_)
  clear hK K
  refine norm_ (a' := ?_) ?_ ?_
  rotate_left
  · show Act.put _ (some 43) _ = _
    simp only [Act.put, pA, pB, pC, pD, pE]; rfl
  refine one_ (i := 12) (N := some 44) (bA 18 8191) rfl rfl (one_of HT_.out (by kernel_rfl)) (by decide) (fun K hK => ?_)
  refine step_append_lies _ (by rfl) (.tmp 41) (.tmp 43) 22 (by rfl) base 3 i0 (.int .i64 0) 1 8 Tryz.underlying22 hi0 hz0 hz1 hz2 rfl (by omega) ov S.opn.length (nats S.opn.reverse) (by rfl) ((HO.out.alloc _).drew) ⟨W.heap.size, 0, none⟩ 1 1 [.int .i64 v] (by rfl) rfl (cell_one_new _ _ _) (by simp [Value.oneCell']) (by omega) (by unfold maxLen; omega) (by omega) (by have := HB.out; simp; omega) _ rfl ?_
  intro g cap w1 hown hgrow hat hlt
  have hs1 := HS2.out.al.drew.grown hgrow (own_off HO.out HS2.out (by decide))
  have hin1 := HIN.out.al.drew.grown hgrow (own_off HO.out HIN.out (by decide))
  have hr1 := HR.out.al.drew.grown hgrow (own_off HO.out HR.out (by decide))
  have hi1 := HI2.out.al.drew.grown hgrow (own_under HO.out HL.out.b2)
  have hl1 := HLO.out.al.drew.grown hgrow (own_under HO.out HL.out.b3)
  have hc1 := HC.out.al.drew.grown hgrow (own_under HO.out HL.out.b5)
  have he1 := (HE.out.alloc (Nat.le_trans (by have := HL.out.a1; have := HL.out.b1; omega) HB.out) (.cells #[.int .i64 v] 3)).drew.grown ((HO.out.alloc _).drew) hgrow (by have := HL.out.a1; have := HL.out.b1; omega) (by have := HL.out.a1; have := HL.out.b1; have := HB.out; simp; omega)
  have HR3 := Lib.hid hr1; have HI3 := Lib.hid hi1; have HLO3 := Lib.hid hl1; have HC3 := Lib.hid hc1; have HE3 := Lib.hid he1; clear hr1 hi1 hl1 hc1 he1
  have x4 := hs1.free 4
  have e5 := hin1.cell v (bls_at _ HNV.out)
  have x5 := hin1.free v
  have HS3 := Lib.hid hs1; have HIN3 := Lib.hid hin1; have HGR := Lib.hid hgrow; have HOW := Lib.hid hown; have e40 := hs1.cell 4 rfl; clear hs1 hin1 hgrow hown hat
  refine hK.out _ _ ⟨(HS3.out.cell 3 rfl), (HS3.out.cell 4 rfl)⟩ (fun hHeld => ?_)
  clear hK K
  refine norm_ (a' := ?_) ?_ ?_
  rotate_left
  · show Act.put _ (some 44) _ = _
    simp only [Act.put, pA, pB, pC, pD, pE]; rfl
  refine pw_ 13 45 (bA 18 16383) HT_.out ?_
  refine pw_ 14 46 (bA 18 32767) HT_.out ?_
  refine last_ (i := 15) (N := none) (bA 18 65535) rfl rfl (one_of HT_.out (by kernel_rfl)) (by decide) (fun K hK => ?_)
  refine skip_ (w1 := ?_) (by rfl) rfl ?_ ?_
  rotate_left; · go_simp; rfl
  refine hK.out _ _ ?_; clear hK K
  refine pw_ 16 47 (bA 18 131071) HT_.out ?_
  refine last_ (i := 17) (N := none) (bA 18 262143) rfl rfl (one_of HT_.out (by kernel_rfl)) (by decide) (fun K hK => ?_)
  refine skip_ (w1 := ?_) (by rfl) rfl ?_ ?_
  rotate_left; · go_simp; rfl
  refine hK.out _ _ ?_; clear hK K
  refine done_ (done_of HT_.out (by kernel_rfl)) ?_
  clear hHeld HT_ HW_
  refine gen_then (fun W2 => Srch W2 base gs gg bi bl bn bc n (.slice (some ⟨g, 0, none⟩) (S.opn.length + 1) cap) (enterS S v) ∧ Ext G w W2 ∧ At W2 w.heap.size [.int .i64 0, .int .i64 0] 235) ?_ ?_
  · have L := HL.out
    have hS := HS.out
    have ho := HOW.out
    rw [nats_snoc] at ho
    have o4 : base ≤ g := (ho.lt g rfl).1
    refine ⟨⟨(HS3.out.put rfl).off L.n3, (HI3.out.off L.n1.symm).off L.n6, (HLO3.out.off L.n2.symm).off L.n8, (HIN3.out.off L.n3.symm).put (bls_set _ _ _).symm, (HC3.out.off L.n4.symm).off L.n10.symm, ?_, ?_, ?_, ?_, ?_⟩, ?_, ?_⟩
    · have := (ho.setB L.b1 (i := 4) (u := .slice (some ⟨g, 0, none⟩) (S.opn.length + 1) cap)).setB L.b4 (i := v) (u := .bool true)
      simpa [enterS] using this
    · simpa [enterS] using hS.hil
    · simpa [enterS] using hS.hll
    · simpa [enterS] using hS.hnl
    · simpa [enterS] using hS.hcl
    · exact (HE3.out.set HS3.out L.a1 (by decide) _ _).set (HIN3.out.off L.n3.symm) L.a4 (by decide) _ _
    · exact (HR3.out.off ((HS3.out.ne HR3.out (by decide)).symm)).off ((HIN3.out.ne HR3.out (by decide)).symm)
  clear x4 e5 x5 e40 c3 c4 f4 cn fn c0r c1r f0r f1r HS3 HIN3 HGR HOW HR3 HI3 HLO3 HC3 HE3 l1 l4 q1 q4 hlt
  rintro W2 ⟨hS2, hE2, hr2⟩
  have c0r := hr2.cell 0 rfl
  have c1r := hr2.cell 1 rfl
  have f0r := hr2.free 0
  have f1r := hr2.free 1
  have HS2' := Lib.hid hS2
  have HE2' := Lib.hid hE2
  have HR2 := Lib.hid hr2
  clear hS2 hE2 hr2
  go_wp2
  have hk : base ≤ w.heap.size := HBW.out
  have ho := own_off HS2'.out.ho HR2.out (by decide)
  have hG : G ≤ w.heap.size := by have := HL.out.a1; have := HL.out.b1; omega
  refine bodyPost_ret (v := .agg #[.int .i64 v, .int .i64 0]) (by simp [results, Tryz.results141, go_sem, c0r, c1r]) rfl ⟨rfl, .slice (some ⟨g, 0, none⟩) (S.opn.length + 1) cap, ?_, ?_⟩
  · exact (HS2'.out.beside HL.out hk ho _).beside HL.out hk ho _
  · exact (HE2'.out.fresh (Nat.le_refl _) hG _ _).fresh (Nat.le_refl _) hG _ _
end Go.Proofs.YtgihncjllelonaaGreat.Scc
