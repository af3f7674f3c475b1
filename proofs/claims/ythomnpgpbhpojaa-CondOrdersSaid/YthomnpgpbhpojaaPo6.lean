/- A map from int to anything in a block of its own, told by what it holds; ranges over it. -/
import Derived.Test.YthomnpgpbhpojaaPo5
import Derived.Maps.RangeRun
import Derived.Shelf.Small.Bits
import Derived.Shelf.Small.Wraps
import Derived.Shelf.Strconv.Itoa0
import Derived.Shelf.Sort.Plain
import Derived.Shelf.Slices.Turned
import Derived.Ground.Names2Prog
import Derived.Shelf.Slices.Clone
import Derived.Shelf.Slices.CompactI
import Derived.Shelf.Slices.SearchI
import Derived.Shelf.Slices.Cells
import Derived.Shelf.Slices.In.SortNone
import Derived.Shelf.Slices.Empties
import Derived.Test.YthomnpgpbhpojaaProg
namespace Go.Proofs.Ythomnpgpbhpojaa.Mem
open Go Go.RowKit Go.MapKept
set_option linter.unusedVariables false
set_option linter.unusedSimpArgs false

def MQ (w : World) (b : Nat) (f : Int → Option Value) : Prop :=
  ∃ es clock, w.heap[b]? = some (.map es clock) ∧ Stamped es clock ∧ (∀ x ∈ es.toList, ∃ (a : Int) (v : Value), x.key = .int .i64 a ∧ x.val = v) ∧
    ∀ (a : Int) (v : Value), f a = some v ↔ ∃ x ∈ es.toList, x.key = .int .i64 a ∧ x.val = v

section
variable {w w' : World} {b : Nat} {f : Int → Option Value}
theorem MQ.lt (h : MQ w b f) : b < w.heap.size := by
  obtain ⟨es, clock, hb, _⟩ := h
  exact lt_of_block hb
theorem MQ.move (h : MQ w b f) (he : w'.heap[b]? = w.heap[b]?) : MQ w' b f := by
  obtain ⟨es, clock, hb, r⟩ := h
  exact ⟨es, clock, he.trans hb, r⟩
theorem MQ.drew (h : MQ w b f) : MQ w.drew b f := h
theorem MQ.drewN (h : MQ w b f) (n : Nat) : MQ (w.drewN n) b f := h
theorem MQ.al (h : MQ w b f) {o : Obj} : MQ (w.alloc o) b f := h.move (Below.heap_alloc w o b h.lt)
theorem MQ.ne (h : MQ w b f) {g : Nat} {cs : List Value} {T : TypeId} (hg : At w g cs T) : g ≠ b := by
  rintro rfl
  obtain ⟨es, clock, hb, _⟩ := h
  have := hg.symm.trans hb
  simp at this
theorem MQ.off (h : MQ w b f) {g i : Nat} {u : Value} (hg : g ≠ b) : MQ (w.setCell ⟨g, i, none⟩ u) b f := h.move (heap_setCell_other w ⟨g, i, none⟩ b u hg.symm)
theorem MQ.grown (h : MQ w b f) {row : Option Nat} (hg : w.grownBy w' row) (hne : some b ≠ row) : MQ w' b f := h.move (hg.block b h.lt hne)
theorem MQ.below (h : MQ w b f) {B : Nat} (hb : Below B w w') (hB : b < B) : MQ w' b f := h.move (hb.block b hB)
theorem MQ.own (h : MQ w b f) {base : Nat} {e : TypeId} {size n : Nat} {v : Value} {xs : List Value} (ho : w.ownsRow base e size v n xs) : some b ≠ v.ownBlock := by
  intro he
  rcases ho.2 with ⟨rfl, _⟩ | ⟨g, cap, cur, rfl, _, hh, _⟩
  · simp [Value.ownBlock] at he
  · have : b = g := by simpa [Value.ownBlock] using he
    subst this
    obtain ⟨es, clock, hb, _⟩ := h
    have := hb.symm.trans hh
    simp at this
theorem MQ.new (w : World) : MQ (w.alloc (.map #[] 0)) w.heap.size fun _ => none :=
  ⟨#[], 0, heap_alloc_new w _, ⟨by simp, by simp, by simp⟩, by simp, by simp⟩

variable {P : Program} {T K E : TypeId}

theorem keysQ_of {es : Array MapEntry} (h : ∀ x ∈ es.toList, ∃ (a : Int) (v : Value), x.key = .int .i64 a ∧ x.val = v) : ∀ x ∈ es.toList, IsKey (.int .i64) x.key := fun x hx => by
  obtain ⟨a, v, h1, _⟩ := h x hx
  rw [h1]
  simp [IsKey]

theorem MQ.find (h : MQ w b f) (k : Int) : ∃ es clock, w.heap[b]? = some (.map es clock) ∧ Stamped es clock ∧ (∀ x ∈ es.toList, ∃ (a : Int) (v : Value), x.key = .int .i64 a ∧ x.val = v) ∧
    (∀ (a : Int) (v : Value), f a = some v ↔ ∃ x ∈ es.toList, x.key = .int .i64 a ∧ x.val = v) ∧
    ((f k = none ∧ Instr.findNow (.int .i64) (.int .i64 k) es.toList 0 = some none ∧ ∀ x ∈ es.toList, x.key ≠ .int .i64 k) ∨
     ∃ (v : Value) (j : Nat) (e : MapEntry), f k = some v ∧ Instr.findNow (.int .i64) (.int .i64 k) es.toList 0 = some (some (j, v)) ∧ es.toList[j]? = some e ∧ e.key = .int .i64 k ∧ e.val = v) := by
  obtain ⟨es, clock, hb, hs, hk, hf⟩ := h
  refine ⟨es, clock, hb, hs, hk, hf, ?_⟩
  rcases findNow_spec (d := .int .i64) (k := .int .i64 k) (by simp [IsKey]) es.toList 0 (keysQ_of hk) with ⟨h1, h2⟩ | ⟨j, e, h1, h2, h3⟩
  · left
    refine ⟨?_, h1, h2⟩
    cases hfk : f k with
    | none => rfl
    | some v =>
      obtain ⟨x, hx, h4, _⟩ := (hf k v).1 hfk
      exact absurd h4 (h2 x hx)
  · right
    obtain ⟨a, v, h4, h5⟩ := hk e (List.mem_of_getElem? h2)
    rw [h3] at h4
    cases h4
    refine ⟨v, j, e, (hf k v).2 ⟨e, List.mem_of_getElem? h2, h3, h5⟩, ?_, h2, h3, h5⟩
    rw [h1, Nat.zero_add, h5]

theorem MQ.lookup_ok (h : MQ w b f) (hT : P.underlying T = some (.map K E)) (hK : P.underlying K = some (.int .i64)) {z : Value} (hz : ∀ w, (zeroValue E).run P w = .ok z w) (k : Int) :
    (Instr.lookup T (.map (some b)) (.int .i64 k) true).run P w = .ok (.tuple #[(f k).getD z, .bool (f k).isSome]) w := by
  obtain ⟨es, clock, hb, hs, hk, hf, hc⟩ := h.find k
  have hik : IsKey (.int .i64) (.int .i64 k) := by simp [IsKey]
  rcases hc with ⟨h1, h2, _⟩ | ⟨v, j, e, h1, h2, _⟩
  · simp [Instr.lookup, run_underlying hT, MapKept.run_getObj_map hb, run_checkKey hK hik, run_findKey hK h2, hz, h1, Result.andThen]
  · simp [Instr.lookup, run_underlying hT, MapKept.run_getObj_map hb, run_checkKey hK hik, run_findKey hK h2, h1, Result.andThen]

def updV (f : Int → Option Value) (k : Int) (v : Option Value) : Int → Option Value := fun x => if x = k then v else f x

theorem MQ.turn {es : Array MapEntry} {clock : Nat} {k : Int} {_v u : Value} {j : Nat} {e : MapEntry} (hb : w.heap[b]? = some (.map es clock)) (hs : Stamped es clock) (hk : ∀ x ∈ es.toList, ∃ (a : Int) (v : Value), x.key = .int .i64 a ∧ x.val = v)
    (hf : ∀ (a : Int) (v : Value), f a = some v ↔ ∃ x ∈ es.toList, x.key = .int .i64 a ∧ x.val = v) (hj : es.toList[j]? = some e) (he : e.key = .int .i64 k) (g : MapEntry → MapEntry) (hg : (g e).key = .int .i64 k ∧ (g e).val = u ∧ (g e).born = e.born)
    (_hg2 : ∀ e', es[j]? = some e' → (g e').born = e'.born) (_hg3 : ∀ e', es[j]? = some e' → (g e').key = e'.key) :
    MQ (putObj w b (.map (es.modify j g) clock)) b (updV f k (some u)) := by
  refine ⟨es.modify j g, clock, by simp [putObj, lt_of_block hb], ?_, ?_, ?_⟩
  · have hes : es[j]? = some e := by rw [← Array.getElem?_toList]; exact hj
    obtain ⟨s1, s2, s3⟩ := hs
    have hborn : (es.modify j g).toList.map (·.born) = es.toList.map (·.born) := by
      apply List.ext_getElem?
      intro i
      rw [List.getElem?_map, List.getElem?_map, Array.getElem?_toList, Array.getElem?_toList, Array.getElem?_modify]
      by_cases hij : j = i
      · subst hij
        rw [if_pos rfl, hes]
        simp [hg.2.2]
      · rw [if_neg hij]
    have hkey : (es.modify j g).toList.map (·.key) = es.toList.map (·.key) := by
      apply List.ext_getElem?
      intro i
      rw [List.getElem?_map, List.getElem?_map, Array.getElem?_toList, Array.getElem?_toList, Array.getElem?_modify]
      by_cases hij : j = i
      · subst hij
        rw [if_pos rfl, hes]
        simp [hg.1, he]
      · rw [if_neg hij]
    refine ⟨?_, by rw [hborn]; exact s2, by rw [hkey]; exact s3⟩
    intro x hx
    have : x.born ∈ (es.modify j g).toList.map (·.born) := List.mem_map.2 ⟨x, hx, rfl⟩
    rw [hborn] at this
    obtain ⟨y, hy, hyb⟩ := List.mem_map.1 this
    rw [← hyb]
    exact s1 y hy
  · intro x hx
    rcases (mem_modify hs.2.2 hj g x).1 hx with rfl | ⟨h1, _⟩
    · exact ⟨k, u, hg.1, hg.2.1⟩
    · exact hk x h1
  · intro a v'
    unfold updV
    by_cases ha : a = k
    · subst ha
      rw [if_pos rfl]
      constructor
      · intro h
        cases h
        exact ⟨g e, (mem_modify hs.2.2 hj g _).2 (.inl rfl), hg.1, hg.2.1⟩
      · rintro ⟨x, hx, h1, h2⟩
        rcases (mem_modify hs.2.2 hj g x).1 hx with rfl | ⟨_, h3⟩
        · rw [hg.2.1] at h2
          cases h2
          rfl
        · rw [he] at h3
          exact absurd h1 h3
    · rw [if_neg ha, hf]
      constructor
      · rintro ⟨x, hx, h1, h2⟩
        exact ⟨x, (mem_modify hs.2.2 hj g x).2 (.inr ⟨hx, by rw [h1, he]; simpa using ha⟩), h1, h2⟩
      · rintro ⟨x, hx, h1, h2⟩
        rcases (mem_modify hs.2.2 hj g x).1 hx with rfl | ⟨h3, _⟩
        · rw [hg.1] at h1
          cases h1
          exact absurd rfl ha
        · exact ⟨x, h3, h1, h2⟩

theorem MQ.update (h : MQ w b f) (hT : P.underlying T = some (.map K E)) (hK : P.underlying K = some (.int .i64)) (k : Int) (u : Value) :
    ∃ o, (Instr.mapUpdate T (.map (some b)) (.int .i64 k) u).run P w = .ok () (putObj w b o) ∧ MQ (putObj w b o) b (updV f k (some u)) := by
  obtain ⟨es, clock, hb, hs, hk, hf, hc⟩ := h.find k
  have hik : IsKey (.int .i64) (.int .i64 k) := by simp [IsKey]
  rcases hc with ⟨h1, h2, h3⟩ | ⟨v, j, e, h1, h2, hj, he, hv⟩
  · refine ⟨.map (es.push { key := .int .i64 k, val := u, born := clock }) (clock + 1), ?_, ?_⟩
    · simp [Instr.mapUpdate, run_underlying hT, MapKept.run_getObj_map hb, run_checkKey hK hik, run_findKey hK h2, MapKept.run_setObj_map _ hb, Result.andThen, putObj]
    · refine ⟨es.push { key := .int .i64 k, val := u, born := clock }, clock + 1, by simp [putObj, lt_of_block hb], ?_, ?_, ?_⟩
      · obtain ⟨s1, s2, s3⟩ := hs
        refine ⟨?_, ?_, ?_⟩
        · intro x hx
          simp only [Array.toList_push, List.mem_append, List.mem_singleton] at hx
          rcases hx with hx | rfl
          · have := s1 x hx; omega
          · simp
        · simp only [Array.toList_push, List.map_append, List.map_cons, List.map_nil]
          rw [List.nodup_append]
          refine ⟨s2, by simp, ?_⟩
          intro a ha c hc
          simp only [List.mem_singleton] at hc
          subst hc
          obtain ⟨x, hx, rfl⟩ := List.mem_map.1 ha
          have := s1 x hx
          omega
        · simp only [Array.toList_push, List.map_append, List.map_cons, List.map_nil]
          rw [List.nodup_append]
          refine ⟨s3, by simp, ?_⟩
          intro a ha c hc
          simp only [List.mem_singleton] at hc
          subst hc
          obtain ⟨x, hx, rfl⟩ := List.mem_map.1 ha
          exact h3 x hx
      · intro x hx
        simp only [Array.toList_push, List.mem_append, List.mem_singleton] at hx
        rcases hx with hx | rfl
        · exact hk x hx
        · exact ⟨k, u, rfl, rfl⟩
      · intro a v'
        unfold updV
        simp only [Array.toList_push, List.mem_append, List.mem_singleton]
        by_cases ha : a = k
        · subst ha
          rw [if_pos rfl]
          constructor
          · intro h
            cases h
            exact ⟨_, .inr rfl, rfl, rfl⟩
          · rintro ⟨x, hx | rfl, h4, h5⟩
            · exact absurd h4 (h3 x hx)
            · cases h5; rfl
        · rw [if_neg ha, hf]
          constructor
          · rintro ⟨x, hx, h4, h5⟩
            exact ⟨x, .inl hx, h4, h5⟩
          · rintro ⟨x, hx | rfl, h4, h5⟩
            · exact ⟨x, hx, h4, h5⟩
            · cases h4; exact absurd rfl ha
  · have hes : es[j]? = some e := by rw [← Array.getElem?_toList]; exact hj
    refine ⟨.map (es.modify j fun x => { x with key := .int .i64 k, val := u }) clock, ?_, ?_⟩
    · simp [Instr.mapUpdate, run_underlying hT, MapKept.run_getObj_map hb, run_checkKey hK hik, run_findKey hK h2, hes, he, run_keyThatStays hik, MapKept.run_setObj_map _ hb, Result.andThen, putObj]
    · exact MQ.turn (_v := v) hb hs hk hf hj he _ ⟨rfl, rfl, rfl⟩ (fun _ _ => rfl) (fun e' h' => by rw [hes] at h'; cases h'; exact he.symm)

theorem MQ.delete (h : MQ w b f) (hT : P.underlying T = some (.map K E)) (hK : P.underlying K = some (.int .i64)) (k : Int) (ty : TypeId) (T2 : TypeId) :
    ∃ o, (Builtin.delete_ #[T, T2] ty #[.map (some b), .int .i64 k]).run P w = .ok (.tuple #[]) (putObj w b o) ∧ MQ (putObj w b o) b (updV f k none) := by
  obtain ⟨es, clock, hb, hs, hk, hf, hc⟩ := h.find k
  have hik : IsKey (.int .i64) (.int .i64 k) := by simp [IsKey]
  rcases hc with ⟨h1, h2, h3⟩ | ⟨v, j, e, h1, h2, hj, he, hv⟩
  · refine ⟨.map es clock, ?_, ?_⟩
    · simp [Builtin.delete_, run_underlying hT, MapKept.run_getObj_map hb, run_checkKey hK hik, run_findKey hK h2, MapKept.run_setObj_map _ hb, Result.andThen, putObj]
    · refine ⟨es, clock, by simp [putObj, lt_of_block hb], hs, hk, ?_⟩
      intro a v'
      unfold updV
      by_cases ha : a = k
      · subst ha
        rw [if_pos rfl]
        constructor
        · intro h; cases h
        · rintro ⟨x, hx, h4, _⟩
          exact absurd h4 (h3 x hx)
      · rw [if_neg ha]; exact hf a v'
  · refine ⟨.map (es.eraseIdxIfInBounds j) clock, ?_, ?_⟩
    · simp [Builtin.delete_, run_underlying hT, MapKept.run_getObj_map hb, run_checkKey hK hik, run_findKey hK h2, MapKept.run_setObj_map _ hb, Result.andThen, putObj]
    · refine ⟨es.eraseIdxIfInBounds j, clock, by simp [putObj, lt_of_block hb], stamped_erase hs j, ?_, ?_⟩
      · intro x hx
        exact hk x ((mem_erase hs.2.2 hj x).1 hx).1
      · intro a v'
        unfold updV
        by_cases ha : a = k
        · subst ha
          rw [if_pos rfl]
          constructor
          · intro h; cases h
          · rintro ⟨x, hx, h4, _⟩
            have := ((mem_erase hs.2.2 hj x).1 hx).2
            rw [he] at this
            exact absurd h4 this
        · rw [if_neg ha, hf]
          constructor
          · rintro ⟨x, hx, h4, h5⟩
            exact ⟨x, (mem_erase hs.2.2 hj x).2 ⟨hx, by rw [h4, he]; simpa using ha⟩, h4, h5⟩
          · rintro ⟨x, hx, h4, h5⟩
            exact ⟨x, ((mem_erase hs.2.2 hj x).1 hx).1, h4, h5⟩

theorem MQ.lookup (h : MQ w b f) (hT : P.underlying T = some (.map K E)) (hK : P.underlying K = some (.int .i64)) {z : Value} (hz : ∀ w, (zeroValue E).run P w = .ok z w) (k : Int) :
    (Instr.lookup T (.map (some b)) (.int .i64 k) false).run P w = .ok ((f k).getD z) w := by
  obtain ⟨es, clock, hb, hs, hk, hf, hc⟩ := h.find k
  have hik : IsKey (.int .i64) (.int .i64 k) := by simp [IsKey]
  rcases hc with ⟨h1, h2, _⟩ | ⟨v, j, e, h1, h2, _⟩
  · simp [Instr.lookup, run_underlying hT, MapKept.run_getObj_map hb, run_checkKey hK hik, run_findKey hK h2, hz, h1, Result.andThen]
  · simp [Instr.lookup, run_underlying hT, MapKept.run_getObj_map hb, run_checkKey hK hik, run_findKey hK h2, h1, Result.andThen]

def MR (w : World) (r b : Nat) (f : Int → Option Value) (done : List Int) : Prop :=
  MQ w b f ∧ done.Nodup ∧ ∃ es clock since seen c0, w.heap[b]? = some (.map es clock) ∧ Stamped es clock ∧ (∀ x ∈ es.toList, ∃ (a : Int) (v : Value), x.key = .int .i64 a ∧ x.val = v) ∧ w.heap[r]? = some (.mapIter (some b) since seen c0) ∧ (∀ x ∈ es.toList, x.born < since) ∧ since ≤ c0 ∧ since ≤ clock ∧
    (∀ a v, f a = some v ↔ ∃ x ∈ es.toList, x.key = .int .i64 a ∧ x.val = v) ∧ ∀ a, a ∈ done ↔ ∃ x ∈ es.toList, x.key = .int .i64 a ∧ seen.contains x.born = true
theorem MR.lt {r : Nat} {done : List Int} (h : MR w r b f done) : r < w.heap.size := by
  obtain ⟨_, _, es, clock, since, seen, c0, _, _, _, hr, _⟩ := h
  exact (Array.getElem?_eq_some_iff.1 hr).1
theorem MR.ne {r : Nat} {done : List Int} (h : MR w r b f done) : r ≠ b := by
  obtain ⟨_, _, es, clock, since, seen, c0, hb, _, _, hr, _⟩ := h
  rintro rfl
  rw [hb] at hr
  cases hr
theorem MR.off_at {r : Nat} {done : List Int} (h : MR w r b f done) {g : Nat} {cs : List Value} {T : TypeId} (hg : At w g cs T) : g ≠ r := by
  obtain ⟨_, _, es, clock, since, seen, c0, _, _, _, hr, _⟩ := h
  rintro rfl
  rw [hg] at hr
  cases hr
theorem MR.move {r : Nat} {done : List Int} (h : MR w r b f done) (he : w'.heap[b]? = w.heap[b]?) (hr' : w'.heap[r]? = w.heap[r]?) : MR w' r b f done := by
  obtain ⟨hm, hn, es, clock, since, seen, c0, hb, hs, hk, hr, rest⟩ := h
  exact ⟨hm.move he, hn, es, clock, since, seen, c0, he.trans hb, hs, hk, hr'.trans hr, rest⟩
theorem MR.below {r : Nat} {done : List Int} (h : MR w r b f done) (hb : Below w.heap.size w w') : MR w' r b f done := h.move (hb.block b h.1.lt) (hb.block r h.lt)
theorem MR.all {r : Nat} {done : List Int} (h : MR w r b f done) : ∀ a ∈ done, ∃ v, f a = some v := by
  obtain ⟨_, _, es, clock, since, seen, c0, _, _, _, _, _, _, _, hf, hd⟩ := h
  intro a ha
  obtain ⟨x, hx, hxa, _⟩ := (hd a).1 ha
  exact ⟨x.val, (hf a _).2 ⟨x, hx, hxa, rfl⟩⟩

theorem MQ.range (h : MQ w b f) (hT : P.underlying T = some (.map K E)) :
    ∃ o, (Instr.range T (.map (some b))).run P w = .ok (.pointer (some ⟨w.heap.size, 0, none⟩)) (w.alloc o) ∧ MR (w.alloc o) w.heap.size b f [] := by
  have h0 := h
  obtain ⟨es, clock, hb, hs, hk, hf⟩ := h
  exact ⟨_, run_range_map w T K E b es clock hT hb, h0.al, List.nodup_nil, es, clock, clock, #[], clock, (Below.heap_alloc w _ b h0.lt).trans hb, hs, hk, heap_alloc_new w _, hs.1, Nat.le_refl _, Nat.le_refl _, hf, fun a => by simp⟩

theorem MR.next {r : Nat} {done : List Int} (h : MR w r b f done) (ty : TypeId) :
    ((∀ a v, f a = some v → a ∈ done) ∧ (Instr.next (.pointer (some ⟨r, 0, none⟩)) false ty).run P w = .ok (.tuple #[.bool false]) w) ∨
    ∃ a v w', f a = some v ∧ a ∉ done ∧ (Instr.next (.pointer (some ⟨r, 0, none⟩)) false ty).run P w = .ok (.tuple #[.bool true, .int .i64 a, v]) w' ∧ MR w' r b f (done ++ [a]) ∧ w.grownBy w' (some r) ∧ w'.heap.size = w.heap.size ∧
      (Instr.entry (.pointer (some ⟨r, 0, none⟩))).run P w' = .ok (.tuple #[.int .i64 a, v]) w' := by
  have hne := h.ne
  obtain ⟨hm, hn, es, clock, since, seen, c0, hb, hs, hk, hr, hold, hsc, hsk, hf, hd⟩ := h
  rcases run_next_at (P := P) w ty r b since c0 seen es clock hr hb hold hsc with ⟨h0, hrun⟩ | ⟨e, he, w1, hal, hrun⟩
  · refine .inl ⟨fun a v hv => ?_, hrun⟩
    obtain ⟨x, hx, hxa, _⟩ := (hf a v).1 hv
    exact (hd a).2 ⟨x, hx, hxa, all_seen es seen h0 x hx⟩
  · obtain ⟨hem, hes⟩ := Go.mem_left he
    obtain ⟨a, v, hea, hev⟩ := hk e hem
    have hr1 : w1.heap[r]? = some (.mapIter (some b) since seen c0) := by rcases hal with rfl | rfl <;> exact hr
    have hb1 : w1.heap[b]? = some (.map es clock) := by rcases hal with rfl | rfl <;> exact hb
    have hset := heap_set (o' := .mapIter (some b) since (seen.push e.born) clock) hr1
    have hb' : (ChangeMaps.setBlock w1 r (.mapIter (some b) since (seen.push e.born) clock)).heap[b]? = some (.map es clock) := (hset.2 b (fun e1 => hne e1.symm)).trans hb1
    have huniq : ∀ x ∈ es.toList, x.key = .int .i64 a → x = e := fun x hx hxa => by
      have hp := ((stamped_iff es clock).1 hs).2.2
      rcases List.mem_iff_getElem.1 hx with ⟨i, hi, rfl⟩
      rcases List.mem_iff_getElem.1 hem with ⟨j, hj, rfl⟩
      rcases Nat.lt_trichotomy i j with h1 | h1 | h1
      · exact absurd (hxa.trans hea.symm) (List.pairwise_iff_getElem.1 hp i j hi hj h1)
      · subst h1; rfl
      · exact absurd (hea.trans hxa.symm) (List.pairwise_iff_getElem.1 hp j i hj hi h1)
    have hnd : a ∉ done := fun hh => by
      obtain ⟨x, hx, hxa, hxs⟩ := (hd a).1 hh
      rw [huniq x hx hxa, hes] at hxs
      cases hxs
    refine .inr ⟨a, v, _, (hf a v).2 ⟨e, hem, hea, hev⟩, hnd, by rw [hrun, hea, hev], ⟨?_, ?_, es, clock, since, seen.push e.born, clock, hb', hs, hk, hset.1, hold, hsk, hsk, hf, fun a' => ?_⟩, ?_, ?_, ?_⟩
    · exact hm.move (hb'.trans hb.symm)
    · rw [List.nodup_append]
      exact ⟨hn, by simp, fun x hx y hy => by simp at hy; subst hy; rintro rfl; exact hnd hx⟩
    · rw [List.mem_append, List.mem_singleton, hd a']
      constructor
      · rintro (⟨x, hx, hxa, hxs⟩ | rfl)
        · exact ⟨x, hx, hxa, by rw [Go.contains_push, hxs]; rfl⟩
        · exact ⟨e, hem, hea, by rw [Go.contains_push]; simp⟩
      · rintro ⟨x, hx, hxa, hxs⟩
        rw [Go.contains_push] at hxs
        rcases Bool.or_eq_true_iff.1 hxs with h1 | h1
        · exact .inl ⟨x, hx, hxa, h1⟩
        · have hxe : x = e := Go.born_inj ((stamped_iff es clock).1 hs).2.1 hx hem (beq_iff_eq.1 h1)
          subst hxe
          rw [hea] at hxa
          cases hxa
          exact .inr rfl
    · rcases hal with rfl | rfl <;> exact ⟨rfl, rfl, rfl, by simp [ChangeMaps.setBlock], fun i _ hi => hset.2 i (fun e1 => hi (by rw [e1]))⟩
    · rcases hal with rfl | rfl <;> simp [ChangeMaps.setBlock]
    · rw [run_entry_at _ r b since seen es clock e hset.1 hb' hem ((stamped_iff es clock).1 hs).2.1, hea, hev]

def MS (w : World) (b : Nat) (f : Int → Option Value) (k : Int) (st : Nat) : Prop :=
  ∃ es clock, w.heap[b]? = some (.map es clock) ∧ Stamped es clock ∧ (∀ x ∈ es.toList, ∃ (a : Int) (v : Value), x.key = .int .i64 a ∧ x.val = v) ∧ (∀ (a : Int) (v : Value), f a = some v ↔ ∃ x ∈ es.toList, x.key = .int .i64 a ∧ x.val = v) ∧ ∃ e ∈ es.toList, e.key = .int .i64 k ∧ e.born = st
theorem MS.mq {k : Int} {st : Nat} (h : MS w b f k st) : MQ w b f := by
  obtain ⟨es, clock, a, b, c, d, _⟩ := h
  exact ⟨es, clock, a, b, c, d⟩
theorem MS.move {k : Int} {st : Nat} (h : MS w b f k st) (he : w'.heap[b]? = w.heap[b]?) : MS w' b f k st := by
  obtain ⟨es, clock, hb, r⟩ := h
  exact ⟨es, clock, he.trans hb, r⟩
theorem mq_same {es : Array MapEntry} {clock : Nat} (hb : w.heap[b]? = some (.map es clock)) : putObj w b (.map es clock) = w := by
  have : w.heap.setIfInBounds b (.map es clock) = w.heap := by
    apply Array.ext_getElem?
    intro i
    rw [Array.getElem?_setIfInBounds]
    split
    · rename_i hi
      subst hi
      rw [if_pos (lt_of_block hb), hb]
    · rfl
  unfold putObj
  rw [this]
theorem MQ.entry (h : MQ w b f) (hT : P.underlying T = some (.map K E)) (hK : P.underlying K = some (.int .i64)) {z : Value} (hz : ∀ w, (zeroValue E).run P w = .ok z w) (k : Int) :
    ∃ (st : Nat) (o : Obj), (Instr.mapEntry T (.map (some b)) (.int .i64 k)).run P w = .ok (.tuple #[(f k).getD z, .int .i64 (st : Int)]) (putObj w b o) ∧ MS (putObj w b o) b (updV f k (some ((f k).getD z))) k st := by
  have hup := h.update hT hK k ((f k).getD z)
  obtain ⟨es, clock, hb, hs, hk, hf, hc⟩ := h.find k
  have hik : IsKey (.int .i64) (.int .i64 k) := by simp [IsKey]
  rcases hc with ⟨h1, h2, h3⟩ | ⟨v', j, e, h1, h2, hj, he, hv'⟩
  · refine ⟨clock, .map (es.push { key := .int .i64 k, val := z, born := clock }) (clock + 1), ?_, ?_⟩
    · simp [Instr.mapEntry, run_underlying hT, MapKept.run_getObj_map hb, run_checkKey hK hik, run_findKey hK h2, MapKept.run_setObj_map _ hb, Result.andThen, putObj, hz, h1, goInt]
    · obtain ⟨o, hr, hm⟩ := hup
      rw [h1] at hr hm ⊢
      have ho : (Instr.mapUpdate T (.map (some b)) (.int .i64 k) z).run P w = .ok () (putObj w b (.map (es.push { key := .int .i64 k, val := z, born := clock }) (clock + 1))) := by
        simp [Instr.mapUpdate, run_underlying hT, MapKept.run_getObj_map hb, run_checkKey hK hik, run_findKey hK h2, MapKept.run_setObj_map _ hb, Result.andThen, putObj]
      have he2 : putObj w b o = putObj w b (.map (es.push { key := .int .i64 k, val := z, born := clock }) (clock + 1)) := by
        have h5 := hr.symm.trans ho
        simpa using h5
      rw [he2] at hm
      obtain ⟨es', c', a1, a2, a3, a4⟩ := hm
      have a5 : (putObj w b (.map (es.push { key := .int .i64 k, val := z, born := clock }) (clock + 1))).heap[b]? = some (.map (es.push { key := .int .i64 k, val := z, born := clock }) (clock + 1)) := by simp [putObj, lt_of_block hb]
      rw [a5] at a1
      cases a1
      exact ⟨_, _, a5, a2, a3, a4, { key := .int .i64 k, val := z, born := clock }, by simp, rfl, rfl⟩
  · have hes : es[j]? = some e := by rw [← Array.getElem?_toList]; exact hj
    have hsame : es.modify j (fun x => { x with key := .int .i64 k }) = es := by
      apply Array.ext_getElem?
      intro i
      rw [Array.getElem?_modify]
      by_cases hij : j = i
      · subst hij
        rw [if_pos rfl, hes]
        simp only [Option.map_some]
        rw [← he]
      · rw [if_neg hij]
    have hup2 : updV f k (some v') = f := by
      funext a
      unfold updV
      by_cases ha : a = k
      · rw [if_pos ha, ha, h1]
      · rw [if_neg ha]
    refine ⟨e.born, .map es clock, ?_, ?_⟩
    · have hw := mq_same hb
      unfold putObj at hw
      simp [Instr.mapEntry, run_underlying hT, MapKept.run_getObj_map hb, run_checkKey hK hik, run_findKey hK h2, hes, he, run_keyThatStays hik, MapKept.run_setObj_map _ hb, Result.andThen, hsame, goInt, h1, putObj]
    · rw [mq_same hb, h1, Option.getD_some, hup2]
      exact ⟨es, clock, hb, hs, hk, hf, e, List.mem_of_getElem? hj, he, rfl⟩
theorem MS.store {k : Int} {st : Nat} (h : MS w b f k st) (u : Value) :
    ∃ o : Obj, (Instr.entryStore T (.map (some b)) (.int .i64 (st : Int)) u).run P w = .ok () (putObj w b o) ∧ MQ (putObj w b o) b (updV f k (some u)) := by
  obtain ⟨es, clock, hb, hs, hk, hf, e, hem, he, hst⟩ := h
  obtain ⟨j, hj⟩ := List.getElem?_of_mem hem
  have hes : es[j]? = some e := by rw [← Array.getElem?_toList]; exact hj
  have hjl : j < es.size := (Array.getElem?_eq_some_iff.1 hes).1
  have hfi : es.findIdx? (fun x => (x.born : Int) == (st : Int)) = some j := by
    rw [Array.findIdx?_eq_some_iff_getElem]
    refine ⟨hjl, ?_, ?_⟩
    · rw [(Array.getElem?_eq_some_iff.1 hes).2, hst]; simp
    · intro i hi
      have hin : ¬ (es[i].born = st) := by
        intro hbe
        have hn := hs.2.1
        have h5 : (es.toList.map (·.born))[i]'(by simp; omega) = (es.toList.map (·.born))[j]'(by simpa using hjl) := by
          simp only [List.getElem_map, Array.getElem_toList]
          rw [hbe, (Array.getElem?_eq_some_iff.1 hes).2, hst]
        have := nodup_inj hn _ _ h5
        omega
      simp only [beq_iff_eq, Int.natCast_inj]
      exact hin
  refine ⟨.map (es.modify j fun x => { x with val := u }) clock, ?_, ?_⟩
  · simp [Instr.entryStore, MapKept.run_getObj_map hb, MapKept.run_setObj_map _ hb, Result.andThen, hfi, putObj, asInt, asIntOf]
  · exact MQ.turn (_v := u) hb hs hk hf hj he _ ⟨he, rfl, rfl⟩ (fun _ _ => rfl) (fun e' h' => rfl)
end
end Go.Proofs.Ythomnpgpbhpojaa.Mem

/-
  DERIVED: THE SHELF's CONTRACTS AT THIS DUMP, IN PLAIN WORDS (tools/lay-plain.mjs out of 'TryShelf.lean', which tools/lay-shelf.mjs wrote): THE SAME DECLARATIONS UNDER THE SAME NAMES: 'import', 'namespace', 'open', 'def', 'theorem' AND NOTHING ELSE: no command of the shelf's: FOR A HAND-IN. Each laying: the table of numbers ('.._ren') and one theorem, a field a fact of the dump's own or the kernel's comparison; each contract: ONE APPLICATION.
-/
namespace Go.Proofs
set_option linter.unusedSimpArgs false
set_option linter.unusedVariables false
open Go.Shelf
def Try.lays122_ren : Go.Shelf.Ren := ⟨fun | 122 => 42 | 215 => 59 | n => n, fun | 3 => 3 | 4 => 4 | n => n, fun | n => n⟩
theorem Try.lays122 : Go.Proofs.Lays.n122 Try.prog Try.lays122_ren := {
  mixed := by kernel_rfl
  f122 := Try.func42.trans (congrArg some (by kernel_rfl))
  f215 := Try.func59.trans (congrArg some (by kernel_rfl))
  t3 := Try.underlying3
  a3 := Try.isAgg3
  z3 := Try.sizeOf3
  v3 := Try.zeroValue3
  t4 := Try.underlying4
  a4 := Try.isAgg4
  z4 := Try.sizeOf4
  v4 := Try.zeroValue4 }
open Go.RowKit in
theorem Try.cmp_Compare_int (x y : Int) (w : World) :
    Calls Try.prog 42 #[.int .i64 x, .int .i64 y] w fun e w' => e = .returned (.int .i64 (Lib.compareInt x y)) ∧ w' = w := Any.cmp_Compare_int Try.lays122 x y w
def Try.lays189_ren : Go.Shelf.Ren := ⟨fun | 189 => 46 | 125 => 58 | 257 => 61 | 128 => 76 | 129 => 77 | 294 => 78 | 295 => 79 | 296 => 80 | 297 => 81 | 298 => 82 | 299 => 83 | 216 => 84 | 300 => 85 | 301 => 86 | 328 => 96 | 329 => 92 | 330 => 93 | 331 => 97 | 332 => 98 | 215 => 59 | 343 => 103 | n => n, fun | 28 => 25 | 3 => 3 | 46 => 43 | 0 => 0 | 51 => 34 | 53 => 116 | 4 => 4 | 183 => 109 | 182 => 108 | 131 => 59 | 5 => 5 | 9 => 9 | 218 => 128 | 222 => 132 | 228 => 141 | 229 => 142 | n => n, fun | n => n⟩
theorem Try.lays189 : Go.Proofs.Lays.n189 Try.prog Try.lays189_ren := {
  mixed := by kernel_rfl
  f125 := Try.func58.trans (congrArg some (by kernel_rfl))
  f128 := Try.func76.trans (congrArg some (by kernel_rfl))
  f129 := Try.func77.trans (congrArg some (by kernel_rfl))
  f189 := Try.func46.trans (congrArg some (by kernel_rfl))
  f215 := Try.func59.trans (congrArg some (by kernel_rfl))
  f216 := Try.func84.trans (congrArg some (by kernel_rfl))
  f257 := Try.func61.trans (congrArg some (by kernel_rfl))
  f294 := Try.func78.trans (congrArg some (by kernel_rfl))
  f295 := Try.func79.trans (congrArg some (by kernel_rfl))
  f296 := Try.func80.trans (congrArg some (by kernel_rfl))
  f297 := Try.func81.trans (congrArg some (by kernel_rfl))
  f298 := Try.func82.trans (congrArg some (by kernel_rfl))
  f299 := Try.func83.trans (congrArg some (by kernel_rfl))
  f300 := Try.func85.trans (congrArg some (by kernel_rfl))
  f301 := Try.func86.trans (congrArg some (by kernel_rfl))
  f328 := Try.func96.trans (congrArg some (by kernel_rfl))
  f329 := Try.func92.trans (congrArg some (by kernel_rfl))
  f330 := Try.func93.trans (congrArg some (by kernel_rfl))
  f331 := Try.func97.trans (congrArg some (by kernel_rfl))
  f332 := Try.func98.trans (congrArg some (by kernel_rfl))
  f343 := Try.func103.trans (congrArg some (by kernel_rfl))
  t0 := Try.underlying0
  a0 := Try.isAgg0
  z0 := Try.sizeOf0
  v0 := Try.zeroValue0
  t3 := Try.underlying3
  a3 := Try.isAgg3
  z3 := Try.sizeOf3
  v3 := Try.zeroValue3
  t4 := Try.underlying4
  a4 := Try.isAgg4
  z4 := Try.sizeOf4
  v4 := Try.zeroValue4
  t5 := Try.underlying5
  a5 := Try.isAgg5
  z5 := Try.sizeOf5
  v5 := Try.zeroValue5
  t9 := Try.underlying9
  a9 := Try.isAgg9
  z9 := Try.sizeOf9
  v9 := Try.zeroValue9
  t28 := Try.underlying25
  a28 := Try.isAgg25
  z28 := Try.sizeOf25
  v28 := Try.zeroValue25
  t46 := Try.underlying43
  a46 := Try.isAgg43
  z46 := Try.sizeOf43
  v46 := Try.zeroValue43
  t51 := Try.underlying34
  a51 := Try.isAgg34
  z51 := Try.sizeOf34
  v51 := Try.zeroValue34
  t53 := Try.underlying116
  a53 := Try.isAgg116
  z53 := Try.sizeOf116
  v53 := Try.zeroValue116
  t131 := Try.underlying59
  a131 := Try.isAgg59
  z131 := Try.sizeOf59
  v131 := Try.zeroValue59
  t182 := Try.underlying108
  a182 := Try.isAgg108
  z182 := Try.sizeOf108
  v182 := Try.zeroValue108
  t183 := Try.underlying109
  a183 := Try.isAgg109
  z183 := Try.sizeOf109
  v183 := Try.zeroValue109
  t218 := Try.underlying128
  a218 := Try.isAgg128
  z218 := Try.sizeOf128
  v218 := Try.zeroValue128
  t222 := Try.underlying132
  a222 := Try.isAgg132
  z222 := Try.sizeOf132
  v222 := Try.zeroValue132
  t228 := Try.underlying141
  a228 := Try.isAgg141
  z228 := Try.sizeOf141
  v228 := Try.zeroValue141
  t229 := Try.underlying142
  a229 := Try.isAgg142
  z229 := Try.sizeOf142
  v229 := Try.zeroValue142 }
open Go.Sort Go.RowKit in
theorem Try.slices_Sort_int (blk off cap : Nat) (zs : List Int) (w : World) (hH : Holds (Value.int .i64) w blk off zs.toArray) (hblk : blk < w.heap.size) (hsz : zs.length < 4611686018427387904) :
    Calls Try.prog 46 #[.slice (some ⟨blk, off, none⟩) zs.length cap] w fun e w' =>
      e = .returned (.tuple #[]) ∧ ∃ n os, w' = grow (putRow (Value.int .i64) (Sort.ahead w n) blk off (zs.mergeSort fun x y => decide (x ≤ y)).toArray) os := Any.slices_Sort_int Try.lays189 blk off cap zs w hH hblk hsz
def Try.lays114_ren : Go.Shelf.Ren := ⟨fun | 114 => 60 | n => n, fun | 28 => 25 | 3 => 3 | 4 => 4 | 9 => 9 | 20 => 20 | 0 => 0 | n => n, fun | n => n⟩
theorem Try.lays114 : Go.Proofs.Lays.n114 Try.prog Try.lays114_ren := {
  mixed := by kernel_rfl
  f114 := Try.func60.trans (congrArg some (by kernel_rfl))
  t0 := Try.underlying0
  a0 := Try.isAgg0
  z0 := Try.sizeOf0
  v0 := Try.zeroValue0
  t3 := Try.underlying3
  a3 := Try.isAgg3
  z3 := Try.sizeOf3
  v3 := Try.zeroValue3
  t4 := Try.underlying4
  a4 := Try.isAgg4
  z4 := Try.sizeOf4
  v4 := Try.zeroValue4
  t9 := Try.underlying9
  a9 := Try.isAgg9
  z9 := Try.sizeOf9
  v9 := Try.zeroValue9
  t20 := Try.underlying20
  a20 := Try.isAgg20
  z20 := Try.sizeOf20
  v20 := Try.zeroValue20
  t28 := Try.underlying25
  a28 := Try.isAgg25
  z28 := Try.sizeOf25
  v28 := Try.zeroValue25 }
open Go.Lib in
theorem Try.slices_Min_int (b off n c : Nat) (zs : List Int) (w : World) (hn : 0 < n) (hz : n ≤ zs.length) (hbig : n ≤ 9223372036854775807) (hc : ∀ j, j < zs.length → w.cell? ⟨b, off + j, none⟩ = some (.int .i64 (zs.getD j 0))) :
    Calls Try.prog 60 #[.slice (some ⟨b, off, none⟩) n c] w fun e w' => e = .returned (.int .i64 (Lib.minOf (zs.take n))) ∧ w' = w := Any.slices_Min_int Try.lays114 b off n c zs w hn hz hbig hc
def Try.laysNm215_ren : Go.Shelf.Ren := ⟨fun | 15 => 45 | n => n, fun | 22 => 25 | 3 => 3 | 4 => 4 | n => n, fun | n => n⟩
theorem Try.laysNm215 : Go.Proofs.Lays2.n15 Try.prog Try.laysNm215_ren := {
  mixed := by kernel_rfl
  f15 := Try.func45.trans (congrArg some (by kernel_rfl))
  t3 := Try.underlying3
  a3 := Try.isAgg3
  z3 := Try.sizeOf3
  v3 := Try.zeroValue3
  t4 := Try.underlying4
  a4 := Try.isAgg4
  z4 := Try.sizeOf4
  v4 := Try.zeroValue4
  t22 := Try.underlying25
  a22 := Try.isAgg25
  z22 := Try.sizeOf25
  v22 := Try.zeroValue25
  i3 := by kernel_rfl }
open Go.RowKit Go.Lib in
theorem Try.slices_Clone_int (b off n c : Nat) (zs : List Int) (w : World) (hz : n ≤ zs.length) (hbig : n * 8 ≤ 140737488355328) (hc : ∀ j, j < zs.length → w.cell? ⟨b, off + j, none⟩ = some (.int .i64 (zs.getD j 0))) :
    Calls Try.prog 45 #[.slice (some ⟨b, off, none⟩) n c] w fun e w' => ∃ v', e = .returned v' ∧ w'.ownsRow w.heap.size 3 1 v' n ((zs.take n).map (Value.int .i64)) ∧ v' ≠ .slice none 0 0 ∧ Below w.heap.size w w' := Any.slices_Clone_int Try.laysNm215 b off n c zs w hz hbig hc
open Go.RowKit Go.Lib in
theorem Try.slices_Clone_int_nil (n c : Nat) (w : World) :
    Calls Try.prog 45 #[.slice none n c] w fun e w' => e = .returned (.slice none 0 0) ∧ w' = w := Any.slices_Clone_int_nil Try.laysNm215 n c w
open Go.RowKit Go.Lib in
theorem Try.slices_Clone_int_zero (a : Addr) (c : Nat) (w : World) :
    Calls Try.prog 45 #[.slice (some a) 0 c] w fun e w' => ∃ v', e = .returned v' ∧ w'.ownsRow w.heap.size 3 1 v' 0 [] ∧ v' ≠ .slice none 0 0 ∧ Below w.heap.size w w' := Any.slices_Clone_int_zero Try.laysNm215 a c w
def Try.laysNm220_ren : Go.Shelf.Ren := ⟨fun | 20 => 88 | n => n, fun | 22 => 25 | 3 => 3 | 4 => 4 | 0 => 0 | n => n, fun | n => n⟩
theorem Try.laysNm220 : Go.Proofs.Lays2.n20 Try.prog Try.laysNm220_ren := {
  mixed := by kernel_rfl
  f20 := Try.func88.trans (congrArg some (by kernel_rfl))
  t0 := Try.underlying0
  a0 := Try.isAgg0
  z0 := Try.sizeOf0
  v0 := Try.zeroValue0
  t3 := Try.underlying3
  a3 := Try.isAgg3
  z3 := Try.sizeOf3
  v3 := Try.zeroValue3
  t4 := Try.underlying4
  a4 := Try.isAgg4
  z4 := Try.sizeOf4
  v4 := Try.zeroValue4
  t22 := Try.underlying25
  a22 := Try.isAgg25
  z22 := Try.sizeOf25
  v22 := Try.zeroValue25
  i3 := by kernel_rfl }
open Go.RowKit Go.Lib Go.Sort in
theorem Try.slices_Compact_int (blk off cap : Nat) (zs : List Int) (w : World) (hH : Holds (Value.int .i64) w blk off zs.toArray) (hsz : zs.length ≤ 9223372036854775807) (hcap : zs.length ≤ cap) :
    Calls Try.prog 88 #[.slice (some ⟨blk, off, none⟩) zs.length cap] w fun e w' => e = .returned (.slice (some ⟨blk, off, none⟩) (Lib.compact zs).length cap) ∧ ∃ q, w' = putRow (Value.int .i64) (Sort.ahead w q) blk off (Lib.compact zs ++ List.replicate (zs.length - (Lib.compact zs).length) 0).toArray := Any.slices_Compact_int Try.laysNm220 blk off cap zs w hH hsz hcap
open Go.RowKit Go.Lib Go.Sort in
theorem Try.slices_Compact_int_empty (a : Option Addr) (cap : Nat) (w : World) :
    Calls Try.prog 88 #[.slice a 0 cap] w fun e w' => e = .returned (.slice a 0 cap) ∧ w' = w := Any.slices_Compact_int_empty Try.laysNm220 a cap w
def Try.laysNm225_ren : Go.Shelf.Ren := ⟨fun | 25 => 89 | 31 => 84 | 32 => 99 | 37 => 59 | n => n, fun | 22 => 25 | 3 => 3 | 4 => 4 | 40 => 43 | 0 => 0 | n => n, fun | n => n⟩
theorem Try.laysNm225 : Go.Proofs.Lays2.n25 Try.prog Try.laysNm225_ren := {
  mixed := by kernel_rfl
  f25 := Try.func89.trans (congrArg some (by kernel_rfl))
  f31 := Try.func84.trans (congrArg some (by kernel_rfl))
  f32 := Try.func99.trans (congrArg some (by kernel_rfl))
  f37 := Try.func59.trans (congrArg some (by kernel_rfl))
  t0 := Try.underlying0
  a0 := Try.isAgg0
  z0 := Try.sizeOf0
  v0 := Try.zeroValue0
  t3 := Try.underlying3
  a3 := Try.isAgg3
  z3 := Try.sizeOf3
  v3 := Try.zeroValue3
  t4 := Try.underlying4
  a4 := Try.isAgg4
  z4 := Try.sizeOf4
  v4 := Try.zeroValue4
  t22 := Try.underlying25
  a22 := Try.isAgg25
  z22 := Try.sizeOf25
  v22 := Try.zeroValue25
  t40 := Try.underlying43
  a40 := Try.isAgg43
  z40 := Try.sizeOf43
  v40 := Try.zeroValue43 }
open Go.RowKit Go.Lib in
theorem Try.slices_BinarySearch_int (b off n c : Nat) (zs : List Int) (x : Int) (w : World) (hz : n ≤ zs.length) (hbig : n < 4611686018427387904) (hc : ∀ j, j < zs.length → w.cell? ⟨b, off + j, none⟩ = some (.int .i64 (zs.getD j 0))) (hs : (zs.take n).Pairwise (· ≤ ·)) :
    Calls Try.prog 89 #[.slice (some ⟨b, off, none⟩) n c, .int .i64 x] w fun e w' => e = .returned (.tuple #[.int .i64 ((zs.take n).countP (· < x) : Nat), .bool ((zs.take n).contains x)]) ∧ ∃ q, w' = w.drewN q := Any.slices_BinarySearch_int Try.laysNm225 b off n c zs x w hz hbig hc hs
open Go.RowKit Go.Sort in
theorem Try.slices_Sort_int_none (p : Option Addr) (cap : Nat) (w : World) :
    Calls Try.prog 46 #[.slice p 0 cap] w fun e w' => e = .returned (.tuple #[]) ∧ w' = w := Any.slices_Sort_int_none Try.lays189 p cap w
open Go.RowKit Go.Lib in
theorem Try.slices_BinarySearch_int_empty (a : Option Addr) (c : Nat) (x : Int) (w : World) :
    Calls Try.prog 89 #[.slice a 0 c, .int .i64 x] w fun e w' => e = .returned (.tuple #[.int .i64 0, .bool false]) ∧ w' = w := Any.slices_BinarySearch_int_empty Try.laysNm225 a c x w
end Go.Proofs
