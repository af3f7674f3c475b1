/- The three functions at lists that can be read: what they answer can be read. -/
import Derived.Test.YthlmffjafeodlaaLw4
import Derived.Test.YthlmffjafeodlaaScc10
namespace Go.Proofs.Ythlmffjafeodlaa.Lw
open Go Go.RowKit Go.Proofs.Ythlmffjafeodlaa.Mem Go.Proofs.Ythlmffjafeodlaa.Sl Go.Proofs.Ythlmffjafeodlaa.Scc Go.Proofs.Ythlmffjafeodlaa.Tj Go.Proofs.YthlmffjafeodlaaW.PrintWords Go.Proofs.YthlmffjafeodlaaW.PrintLast
attribute [local go_sem ↓] Go.wp_at_zero Go.wp_at_succ
set_option linter.unusedSimpArgs false
set_option linter.unusedVariables false

theorem ArgV.below {w w' : World} {v : Value} {n size : Nat} {news : List Value} (h : ArgV w v n size news) (hb : Below w.heap.size w w') : ArgV w' v n size news := by
  refine ⟨h.1, h.2.1, h.2.2.imp id ?_⟩
  rintro ⟨ad, c, e, hn, hc⟩
  exact ⟨ad, c, e, hn, fun j u hu => (hb.cell (World.block_lt_of_cell? w _ (hc j u hu))).trans (hc j u hu)⟩

theorem RdL.nil (w : World) (A : Option Addr) : RdL w A [] := fun i r h => by simp at h

/-- Of, of lists that can be read. -/
theorem of_rd (w : World) (Av Aa : Option Addr) (cv ca : Nat) (l : List Int) (arcs : List (Int × Int)) (hv : RdI w Av l) (ha : RdA w Aa arcs) (hn : l.length ≤ 999999) (hm : arcs.length ≤ 1000000)
    (k code : Nat) (ls : List (List Int)) (hR : ofS l arcs (sorted l) k = some (code, ls)) (hz : code ≠ 0 → ls = []) :
    Calls Try.prog 10 #[.slice Av l.length cv, .slice Aa arcs.length ca] w fun e w' => ∃ A c, e = .returned (.tuple #[.slice A ls.length c, .int .i64 (code : Int)]) ∧ RdL w' A ls ∧ Below w.heap.size w w' := by
  refine (of_calls w Av Aa cv ca _ _ l arcs ls hv ha (by omega) hm hR).mono ?_
  rintro e w' ⟨hb, h1, h2⟩
  by_cases hc : code = 0
  · obtain ⟨bo, vals, he, _, hrows⟩ := h2 hc
    rw [hc]
    exact ⟨_, _, he, RdL.of_rows hrows, hb⟩
  · rw [hz hc]
    exact ⟨none, 0, h1 hc, RdL.nil _ _, hb⟩

/-- Order. -/
theorem order_rd (w : World) (Av Aa : Option Addr) (cv ca : Nat) (l : List Int) (arcs : List (Int × Int)) (hv : RdI w Av l) (ha : RdA w Aa arcs) (hn : l.length ≤ 999999) (hm : arcs.length ≤ 1000000)
    (k code : Nat) (ts : List Int) (hR : orderS l arcs (sorted l) k = some (code, ts)) (hz : code ≠ 0 → ts = []) :
    Calls Try.prog 11 #[.slice Av l.length cv, .slice Aa arcs.length ca] w fun e w' => ∃ A c, e = .returned (.tuple #[.slice A ts.length c, .int .i64 (code : Int)]) ∧ RdI w' A ts ∧ Below w.heap.size w w' := by
  refine (order_calls w Av Aa cv ca _ _ l arcs ts hv ha (by omega) hm hR).mono ?_
  rintro e w' ⟨hb, h1, h2⟩
  by_cases hc : code = 0
  · obtain ⟨v, he, ho⟩ := h2 hc
    obtain ⟨A, c, rfl⟩ := own_slice ho
    rw [hc]
    exact ⟨A, c, he, (RdI.of_own ho).1, hb⟩
  · rw [hz hc]
    exact ⟨none, 0, h1 hc, RdI.nil _ _, hb⟩

theorem RdV.lit (w : World) (a : Array Value) (T : TypeId) (n size c : Nat) (hl : a.toList.length = n * size) (h1 : ∀ u ∈ a.toList, u.oneCell' = true) : RdV (w.alloc (.cells a T)) (.slice (some ⟨w.heap.size, 0, none⟩) n c) n size a.toList := by
  refine ⟨hl, h1, .inr ⟨_, _, rfl, fun j u hu => ?_⟩⟩
  rw [add_plain]
  simpa using (At.new w a T).cell j hu

theorem One.start {w0 : World} {e : TypeId} {size : Nat} : One w0 e size (.slice none 0 0) 0 [] w0 := ⟨World.ownsRow_nil _ _ _ _, Below.refl _ _⟩
theorem One.startAt {w0 W : World} {e : TypeId} {size : Nat} (hb : Below w0.heap.size w0 W) : One w0 e size (.slice none 0 0) 0 [] W := ⟨World.ownsRow_nil _ _ _ _, hb⟩
theorem Two.startAt {w0 W : World} {e e' : TypeId} {size size' : Nat} (hb : Below w0.heap.size w0 W) : Two w0 e size (.slice none 0 0) 0 [] e' size' (.slice none 0 0) 0 [] W := ⟨World.ownsRow_nil _ _ _ _, World.ownsRow_nil _ _ _ _, fun k h => by simp [Value.ownBlock] at h, hb⟩

theorem drop_rev {α : Type} {l : List α} {i : Nat} (h : i < l.length) : (l.drop i).reverse = (l.drop (i + 1)).reverse ++ [l[i]] := by
  rw [List.drop_eq_getElem_cons h, List.reverse_cons]

/-- Both arcs turned about; each twice. -/
def swapA (p : Int × Int) : Int × Int := (p.2, p.1)
def twiceA (l : List (Int × Int)) : List (Int × Int) := l.flatMap fun p => [p, p]
theorem twiceA_snoc (l : List (Int × Int)) (p : Int × Int) : twiceA (l ++ [p]) = twiceA l ++ [p, p] := by simp [twiceA]
theorem twiceA_length (l : List (Int × Int)) : (twiceA l).length = 2 * l.length := by
  induction l with
  | nil => rfl
  | cons p r ih => simp [twiceA] at *; omega
theorem mem_twiceA {l : List (Int × Int)} {p : Int × Int} : p ∈ twiceA l ↔ p ∈ l := by
  simp [twiceA]
theorem mem_swapA {l : List (Int × Int)} {p : Int × Int} : p ∈ l.map swapA ↔ (p.2, p.1) ∈ l := by
  simp only [List.mem_map, swapA]
  constructor
  · rintro ⟨q, hq, rfl⟩
    exact hq
  · intro h
    exact ⟨_, h, rfl⟩

theorem cell_al {w : World} {a : Addr} {v : Value} (h : w.cell? a = some v) (o : Obj) : (w.alloc o).cell? a = some v :=
  (((Below.refl w.heap.size w).alloc (Nat.le_refl _) o).cell (World.block_lt_of_cell? w _ h)).trans h
theorem Below.drAl (w : World) (o : Obj) : Below w.heap.size w (w.drew.alloc o) := (Below.refl w.heap.size w).drew.alloc (Nat.le_refl _) o

theorem fo_bound : ∀ (l : List Nat) (k m : Nat), fo l k = some m → m ≤ k + l.length
  | [], k, m, h => by
    rw [fo] at h
    cases h
    simp
  | c :: r, k, m, h => by
    rw [fo] at h
    rw [List.length_cons]
    split at h
    · have := fo_bound r k m h
      omega
    · split at h
      · have := fo_bound r (k + 1) m h
        omega
      · cases h
theorem grpZ_length (comp : List Nat) (sl : List Int) (c : Nat) : (grpZ comp sl c).length ≤ comp.length := by
  unfold grpZ
  rw [List.length_map]
  refine Nat.le_trans (List.length_filter_le _ _) ?_
  rw [List.length_zip]
  exact Nat.min_le_left _ _
/-- How long the answers are. -/
theorem of_small {l : List Int} {arcs : List (Int × Int)} {sl : List Int} {ls : List (List Int)} {code : Nat} (hz : code ≠ 0 → ls = []) (h0 : code = 0 → ∃ comp m, CompOf l.length (PE sl arcs) comp m ∧ ls = ofL comp sl m) : ls.length ≤ l.length ∧ ∀ r ∈ ls, r.length ≤ l.length := by
  by_cases hc : code = 0
  · obtain ⟨comp, m, h, rfl⟩ := h0 hc
    have := fo_bound comp 0 m h.2.1
    have hl := h.1
    refine ⟨by simp [ofL]; omega, fun r hr => ?_⟩
    simp only [ofL, List.mem_map] at hr
    obtain ⟨c, _, rfl⟩ := hr
    have := grpZ_length comp sl c
    omega
  · rw [hz hc]
    simp
theorem order_small {l : List Int} {arcs : List (Int × Int)} {sl : List Int} {ts : List Int} {code : Nat} (hz : code ≠ 0 → ts = []) (h0 : code = 0 → ∃ comp m F, CompOf l.length (PE sl arcs) comp m ∧ IsOrder (Arc l.length (PE sl arcs) comp) m F ∧ ts = F.map (headZ comp sl)) : ts.length ≤ l.length := by
  by_cases hc : code = 0
  · obtain ⟨comp, m, F, h, hF, rfl⟩ := h0 hc
    have := fo_bound comp 0 m h.2.1
    have hl := h.1
    have := hF.2.2
    rw [List.length_map]
    omega
  · rw [hz hc]
    simp

theorem turned_plain (L : List Int) (R : List (Int × Int)) (hL : L.length ≤ 60) (hR : R.length ≤ 240) : ∃ code ls ts, ofS L R (sorted L) 1000 = some (code, ls) ∧ ofS L.reverse (twiceA R.reverse) (sorted L.reverse) 1000 = some (code, ls) ∧
    ofS L (R.reverse.map swapA) (sorted L) 1000 = some (code, ls) ∧ orderS L R (sorted L) 1000 = some (code, ts) ∧ orderS L.reverse (twiceA R.reverse) (sorted L.reverse) 1000 = some (code, ts) ∧
    (code ≠ 0 → ls = []) ∧ (code ≠ 0 → ts = []) ∧ ls.length ≤ 60 ∧ (∀ r ∈ ls, r.length ≤ 60) ∧ ts.length ≤ 60 := by
  have hl := sorted_length L
  have hs := sorted_rising L
  have hsr : sorted L.reverse = sorted L := sorted_same (List.reverse_perm L)
  obtain ⟨ls, h1, h2, h3⟩ := ofS_ends (l := L) (arcs := R) (k := 1000) hl hs (by omega) (by omega)
  obtain ⟨ts, h4, h5, h6⟩ := orderS_ends (l := L) (arcs := R) (k := 1000) hl hs (by omega) (by omega) (by omega)
  have hm : ∀ p, p ∈ R ↔ p ∈ twiceA R.reverse := fun p => by rw [mem_twiceA, List.mem_reverse]
  have hw : ∀ p, p ∈ R.reverse.map swapA ↔ (p.2, p.1) ∈ R := fun p => by rw [mem_swapA, List.mem_reverse]
  have ht : (twiceA R.reverse).length = 2 * R.length := by rw [twiceA_length, List.length_reverse]
  have hsm := of_small h2 h3
  refine ⟨_, ls, ts, h1, ?_, ?_, h4, ?_, h2, h5, Nat.le_trans hsm.1 hL, fun r hr => Nat.le_trans (hsm.2 r hr) hL, Nat.le_trans (order_small h5 h6) hL⟩
  · rw [hsr, ← h1]
    refine (ofS_same hl (by rw [hl, List.length_reverse]) hs (by omega) (by omega) (by rw [List.length_reverse]; omega) (good_same hm) fun x y => ?_).symm
    rw [PE_same hm]
  · rw [← h1]
    exact (ofS_same hl hl hs (by omega) (by omega) (by rw [List.length_map, List.length_reverse]; omega) (good_turn hw) (PE_turn hw)).symm
  · rw [hsr, ← h4]
    exact (orderS_same hl (by rw [hl, List.length_reverse]) hs (by omega) (by omega) (by omega) (by omega) (by rw [List.length_reverse]; omega) hm).symm

end Go.Proofs.Ythlmffjafeodlaa.Lw
