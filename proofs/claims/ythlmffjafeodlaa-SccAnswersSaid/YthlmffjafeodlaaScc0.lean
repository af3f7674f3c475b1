/- scc.search in memory, and what enter does. -/
import Derived.Test.YthlmffjafeodlaaProg
import Derived.Test.YthlmffjafeodlaaMem
import Derived.Test.YthlmffjafeodlaaTj
import Derived.KernelRfl
import Derived.Deep.RegionHeld3
import Derived.Deep.DrawnRows
import Derived.BigRegion
import Derived.Outline
import Derived.WalkLawsBesides
import Derived.WalkSpells
import Derived.Lib.Hide
namespace Go.Proofs.Ythlmffjafeodlaa.Scc
open Go Go.RowKit Go.Proofs.Ythlmffjafeodlaa.Mem Go.Proofs.Ythlmffjafeodlaa.Tj
attribute [local go_sem ↓] Go.wp_at_zero Go.wp_at_succ

theorem info_int : (Try.prog.info? 3).map (fun i => (i.zero, i.size, i.bytes)) = some (some (.int .i64 0), 1, 8) := by kernel_rfl

structure Srch (w : World) (base gs gg bi bl bn bc n : Nat) (ov : Value) (S : St) : Prop where
  hs : At w gs [.pointer (some ⟨gg, 0, none⟩), .slice (some ⟨bi, 0, none⟩) n n, .slice (some ⟨bl, 0, none⟩) n n, .slice (some ⟨bn, 0, none⟩) n n, ov, .slice (some ⟨bc, 0, none⟩) n n, (.int .i64 (S.cnt : Int)), (.int .i64 (S.time : Int))] 75
  hi : At w bi (nats S.idx) 3
  hl : At w bl (nats S.low) 3
  hn : At w bn (bls S.inn) 4
  hc : At w bc (nats S.comp) 3
  ho : w.ownsRow base 3 1 ov S.opn.length (nats S.opn.reverse)
  hil : S.idx.length = n
  hll : S.low.length = n
  hnl : S.inn.length = n
  hcl : S.comp.length = n

/-- Where the blocks lie to one another. -/
structure Lie (G base gs bi bl bn bc : Nat) : Prop where
  a1 : G ≤ gs
  a2 : G ≤ bi
  a3 : G ≤ bl
  a4 : G ≤ bn
  a5 : G ≤ bc
  b1 : gs < base
  b2 : bi < base
  b3 : bl < base
  b4 : bn < base
  b5 : bc < base
  n1 : gs ≠ bi
  n2 : gs ≠ bl
  n3 : gs ≠ bn
  n4 : gs ≠ bc
  n5 : bi ≠ bl
  n6 : bi ≠ bn
  n7 : bi ≠ bc
  n8 : bl ≠ bn
  n9 : bl ≠ bc
  n10 : bn ≠ bc

/-- What a step of the search keeps: all below G, and the rows of frames. -/
structure Ext (G : Nat) (w w' : World) : Prop where
  below : Below G w w'
  way : ∀ k cs, At w k cs 89 → At w' k cs 89

theorem Ext.refl (G : Nat) (w : World) : Ext G w w := ⟨Below.refl G w, fun _ _ h => h⟩
theorem Ext.trans {G : Nat} {a b c : World} (h : Ext G a b) (k : Ext G b c) : Ext G a c := ⟨h.below.trans k.below, fun _ _ x => k.way _ _ (h.way _ _ x)⟩
theorem Ext.drew {G : Nat} {a b : World} (h : Ext G a b) : Ext G a b.drew := ⟨h.below.drew, h.way⟩
theorem Ext.drewN {G : Nat} {a b : World} (h : Ext G a b) (n : Nat) : Ext G a (b.drewN n) := ⟨below_drewN h.below n, h.way⟩
theorem Ext.alloc {G : Nat} {a b : World} (h : Ext G a b) (hG : G ≤ b.heap.size) (o : Obj) : Ext G a (b.alloc o) := ⟨h.below.alloc hG o, fun k cs x => (h.way k cs x).alloc o⟩
theorem Ext.set {G : Nat} {a b : World} (h : Ext G a b) {g : Nat} {cs : List Value} {T : TypeId} (hg : At b g cs T) (hG : G ≤ g) (hT : 89 ≠ T) (i : Nat) (u : Value) : Ext G a (b.setCell ⟨g, i, none⟩ u) :=
  ⟨h.below.setCell hG u, fun k cs' x => (h.way k cs' x).far ((h.way k cs' x).ne hg hT) u⟩
theorem Ext.grown {G : Nat} {a b c : World} (h : Ext G a b) {base n : Nat} {v : Value} {xs : List Value} (ho : b.ownsRow base 3 1 v n xs) (hg : b.grownBy c v.ownBlock) (hb : G ≤ base) (hG : G ≤ b.heap.size) : Ext G a c :=
  ⟨h.below.grown hg hG (fun k hk => Nat.le_trans hb (ho.lt k hk).1), fun k cs x => (h.way k cs x).grown hg (own_off ho (h.way k cs x) (by decide))⟩

/-- A store into a block behind the search's own. -/
theorem Srch.beside {w : World} {base gs gg bi bl bn bc n : Nat} {ov : Value} {S : St} {G : Nat} (h : Srch w base gs gg bi bl bn bc n ov S) (L : Lie G base gs bi bl bn bc) {k i : Nat} (hk : base ≤ k) (ho : some k ≠ ov.ownBlock) (u : Value) :
    Srch (w.setCell ⟨k, i, none⟩ u) base gs gg bi bl bn bc n ov S :=
  have := L.b1; have := L.b2; have := L.b3; have := L.b4; have := L.b5
  ⟨h.hs.off (by omega), h.hi.off (by omega), h.hl.off (by omega), h.hn.off (by omega), h.hc.off (by omega), ownsRow_setCell_other h.ho (fun e => ho e.symm) u, h.hil, h.hll, h.hnl, h.hcl⟩
theorem Srch.drewN {w : World} {base gs gg bi bl bn bc n : Nat} {ov : Value} {S : St} (h : Srch w base gs gg bi bl bn bc n ov S) (k : Nat) : Srch (w.drewN k) base gs gg bi bl bn bc n ov S :=
  ⟨h.hs, h.hi, h.hl, h.hn, h.hc, h.ho, h.hil, h.hll, h.hnl, h.hcl⟩
theorem Srch.drew {w : World} {base gs gg bi bl bn bc n : Nat} {ov : Value} {S : St} (h : Srch w base gs gg bi bl bn bc n ov S) : Srch w.drew base gs gg bi bl bn bc n ov S :=
  ⟨h.hs, h.hi, h.hl, h.hn, h.hc, h.ho, h.hil, h.hll, h.hnl, h.hcl⟩
theorem Srch.alloc {w : World} {base gs gg bi bl bn bc n : Nat} {ov : Value} {S : St} (h : Srch w base gs gg bi bl bn bc n ov S) (o : Obj) : Srch (w.alloc o) base gs gg bi bl bn bc n ov S :=
  ⟨h.hs.alloc o, h.hi.alloc o, h.hl.alloc o, h.hn.alloc o, h.hc.alloc o, h.ho.alloc o, h.hil, h.hll, h.hnl, h.hcl⟩
/-- An append to a row of frames. -/
theorem Srch.grownWay {w w' : World} {base gs gg bi bl bn bc n m : Nat} {ov v : Value} {S : St} {G : Nat} {xs : List Value} (h : Srch w base gs gg bi bl bn bc n ov S) (L : Lie G base gs bi bl bn bc) (ho : w.ownsRow base 89 2 v m xs) (hg : w.grownBy w' v.ownBlock) :
    Srch w' base gs gg bi bl bn bc n ov S :=
  ⟨h.hs.grown hg (own_under ho L.b1), h.hi.grown hg (own_under ho L.b2), h.hl.grown hg (own_under ho L.b3), h.hn.grown hg (own_under ho L.b4), h.hc.grown hg (own_under ho L.b5),
    h.ho.kept hg (own_apart h.ho ho (by decide)), h.hil, h.hll, h.hnl, h.hcl⟩
/-- A store into a block that was not there. -/
theorem Ext.fresh {G : Nat} {a b : World} (h : Ext G a b) {k : Nat} (hk : a.heap.size ≤ k) (hG : G ≤ k) (i : Nat) (u : Value) : Ext G a (b.setCell ⟨k, i, none⟩ u) :=
  ⟨h.below.setCell hG u, fun k' cs x => (h.way k' cs x).off (by have := x.lt; omega)⟩

end Go.Proofs.Ythlmffjafeodlaa.Scc
