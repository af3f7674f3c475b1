/- heap.Heap[int, int] in memory; its less; ahead; swap. -/
import Derived.Test.YthlmffjafeodlaaProg
import Derived.Test.YthlmffjafeodlaaMp
import Derived.Test.YthlmffjafeodlaaHeap
import Derived.Test.YthlmffjafeodlaaWLast
import Derived.Test.YthlmffjafeodlaaWTab
import Derived.KernelRfl
import Derived.Deep.DrawnRows
import Derived.BigRegion
import Derived.Outline
import Derived.WalkLawsBesides
import Derived.WalkSpells
import Derived.Lib.Hide
import Derived.Deep.DeepCutAuto
import Derived.Deep.LoopGhost
namespace Go.Proofs.Ythlmffjafeodlaa.Hp
open Go Go.RowKit Go.Proofs.Ythlmffjafeodlaa.Mem Go.Proofs.Ythlmffjafeodlaa.Hq Go.Proofs.YthlmffjafeodlaaW.PrintWords Go.Proofs.YthlmffjafeodlaaW.PrintLast
attribute [local go_sem ↓] Go.wp_at_zero Go.wp_at_succ
set_option linter.unusedSimpArgs false
set_option linter.unusedVariables false

theorem info_item : (Try.prog.info? 82).map (fun i => (i.zero, i.size, i.bytes)) = some (some (.agg #[.int .i64 0, .int .i64 0, .int .i64 0]), 3, 24) := by kernel_rfl

/-- A call of a function value, in a region that draws. -/
theorem goesV_ {P : Program} {ops : Array Oper} {Q : Exit → Act → World → Prop} {oi : Oper} {N : Option Tmp} {a : Act} {w : World} {K : Act → World → Prop} {f : FuncId} {fn : Func} {opds : Array Operand} {ts : Array TypeId} (hf : P.funcs[f]? = some fn) (hname : (fn.name == "runtime.NumGoroutine") = false) (hb : fn.body.isSome = true) (args : Array Value)
    (hw : Region.wanted oi (yielded ops a.tmps) = true) (hN : oi.dst = N) (t : Operand) (ht : a.eval t = .func (.func f) #[] #[]) (hop : oi.op = .call { callee := .value t, args := opds, argTypes := ts }) (hargs : opds.map a.eval = args)
    (h : Calls P f args w fun e w' => ∃ v, e = .returned v ∧ K (a.put N v) w') : if Region.wanted oi (yielded ops a.tmps) = true then Oper.wp P oi a w K Q else K (a.put N undef) w := by
  refine call_ f args hw hN ?_ h
  have he := enters_ hf hname hb args w
  unfold execOp
  simp [hop, resolve, Deferred.ofValue, invoke, ht, hargs, he]

def enc (l : List Itm) : List Value := l.flatMap fun p => [.int .i64 p.1, .int .i64 p.2.1, .int .i64 p.2.2]
theorem enc_length (l : List Itm) : (enc l).length = l.length * 3 := by
  induction l with
  | nil => rfl
  | cons p r ih => simp only [enc, List.flatMap_cons, List.length_append, List.length_cons, List.length_nil] at *; omega
theorem enc_cons (p : Itm) (l : List Itm) : enc (p :: l) = .int .i64 p.1 :: .int .i64 p.2.1 :: .int .i64 p.2.2 :: enc l := by simp [enc]
theorem enc_append (a b : List Itm) : enc (a ++ b) = enc a ++ enc b := by simp [enc]
theorem enc_at : ∀ (l : List Itm) (n : Nat) (x : Itm), l[n]? = some x → (enc l)[n * 3]? = some (.int .i64 x.1) ∧ (enc l)[n * 3 + 1]? = some (.int .i64 x.2.1) ∧ (enc l)[n * 3 + 2]? = some (.int .i64 x.2.2)
  | [], n, x, h => by simp at h
  | p :: l, 0, x, h => by
    cases h
    rw [enc_cons]
    exact ⟨rfl, rfl, rfl⟩
  | p :: l, n + 1, x, h => by
    have := enc_at l n x (by simpa using h)
    rw [enc_cons, show (n + 1) * 3 = n * 3 + 1 + 1 + 1 by omega]
    exact this
theorem enc_set : ∀ (l : List Itm) (n : Nat) (x : Itm), (((enc l).set (n * 3) (.int .i64 x.1)).set (n * 3 + 1) (.int .i64 x.2.1)).set (n * 3 + 2) (.int .i64 x.2.2) = enc (l.set n x)
  | [], n, x => by simp [enc]
  | p :: l, 0, x => by rw [List.set_cons_zero, enc_cons, enc_cons]; rfl
  | p :: l, n + 1, x => by
    rw [List.set_cons_succ, enc_cons, enc_cons, show (n + 1) * 3 = n * 3 + 1 + 1 + 1 by omega]
    simp only [List.set_cons_succ]
    rw [enc_set l n x]

/-- The heap: a struct, its items' row, its map of places. -/
structure Hp (w : World) (base hb mb : Nat) (iv : Value) (its : List Itm) (came : Int) : Prop where
  hat : At w hb [.func (.func 24) #[] #[], iv, .map (some mb), .int .i64 came] 80
  own : w.ownsRow base 82 3 iv its.length (enc its)
  mp : ∃ f, MP w mb f ∧ Fits f its
  lb : hb < base
  lm : mb < base

theorem Hp.drew {w : World} {base hb mb : Nat} {iv : Value} {its : List Itm} {came : Int} (h : Hp w base hb mb iv its came) : Hp w.drew base hb mb iv its came := ⟨h.hat, h.own, h.mp, h.lb, h.lm⟩
theorem Hp.drewN {w : World} {base hb mb : Nat} {iv : Value} {its : List Itm} {came : Int} (h : Hp w base hb mb iv its came) (n : Nat) : Hp (w.drewN n) base hb mb iv its came := ⟨h.hat, h.own, h.mp, h.lb, h.lm⟩
theorem Hp.below {w w' : World} {base hb mb : Nat} {iv : Value} {its : List Itm} {came : Int} (h : Hp w base hb mb iv its came) (hb' : Below w.heap.size w w') : Hp w' base hb mb iv its came := by
  obtain ⟨f, h1, h2⟩ := h.mp
  exact ⟨h.hat.below hb' h.hat.lt, own_move h.own (fun k hk => hb'.block k (h.own.lt k hk).2), ⟨f, h1.below hb' h1.lt, h2⟩, h.lb, h.lm⟩

theorem less_calls (a b : Int) (w : World) : Calls Try.prog 24 #[.int .i64 a, .int .i64 b] w fun e w' => e = .returned (.bool (decide (a < b))) ∧ w' = w := by
  go_enter Try.func24, Try.ntmps24
  go_wp2
  go_ret
  exact ⟨rfl, rfl⟩

end Go.Proofs.Ythlmffjafeodlaa.Hp
