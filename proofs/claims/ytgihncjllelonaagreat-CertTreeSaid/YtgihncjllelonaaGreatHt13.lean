/- A map from int to anything in a block of its own, told by what it holds; ranges over it. -/
import Derived.Test.YtgihncjllelonaaGreatHt12
import Derived.Maps.RangeRun
import Derived.Test.YtgihncjllelonaaGreatHt1
import Derived.Laws.FloatArith
namespace Go.Proofs.YtgihncjllelonaaGreat.Mem
open Go Go.RowKit Go.MapKept
set_option linter.unusedVariables false
set_option linter.unusedSimpArgs false

def MQ (w : World) (b : Nat) (f : Int → Option Value) : Prop :=
  ∃ es clock, w.heap[b]? = some (.map es clock) ∧ Stamped es clock ∧ (∀ x ∈ es.toList, ∃ (a : Int) (v : Value), x.key = .int .i64 a ∧ x.val = v) ∧
    ∀ (a : Int) (v : Value), f a = some v ↔ ∃ x ∈ es.toList, x.key = .int .i64 a ∧ x.val = v

section
variable {w w' : World} {b : Nat} {f : Int → Option Value}
theorem MQ.lt (h : MQ w b f) : b < w.heap.size := by
  obtain ⟨es, clock, hb, _⟩ := h
  exact lt_of_block hb
theorem MQ.move (h : MQ w b f) (he : w'.heap[b]? = w.heap[b]?) : MQ w' b f := by
  obtain ⟨es, clock, hb, r⟩ := h
  exact ⟨es, clock, he.trans hb, r⟩
theorem MQ.drew (h : MQ w b f) : MQ w.drew b f := h
theorem MQ.drewN (h : MQ w b f) (n : Nat) : MQ (w.drewN n) b f := h
theorem MQ.al (h : MQ w b f) {o : Obj} : MQ (w.alloc o) b f := h.move (Below.heap_alloc w o b h.lt)
theorem MQ.ne (h : MQ w b f) {g : Nat} {cs : List Value} {T : TypeId} (hg : At w g cs T) : g ≠ b := by
  rintro rfl
  obtain ⟨es, clock, hb, _⟩ := h
  have := hg.symm.trans hb
  simp at this
theorem MQ.off (h : MQ w b f) {g i : Nat} {u : Value} (hg : g ≠ b) : MQ (w.setCell ⟨g, i, none⟩ u) b f := h.move (heap_setCell_other w ⟨g, i, none⟩ b u hg.symm)
theorem MQ.grown (h : MQ w b f) {row : Option Nat} (hg : w.grownBy w' row) (hne : some b ≠ row) : MQ w' b f := h.move (hg.block b h.lt hne)
theorem MQ.below (h : MQ w b f) {B : Nat} (hb : Below B w w') (hB : b < B) : MQ w' b f := h.move (hb.block b hB)
theorem MQ.own (h : MQ w b f) {base : Nat} {e : TypeId} {size n : Nat} {v : Value} {xs : List Value} (ho : w.ownsRow base e size v n xs) : some b ≠ v.ownBlock := by
  intro he
  rcases ho.2 with ⟨rfl, _⟩ | ⟨g, cap, cur, rfl, _, hh, _⟩
  · simp [Value.ownBlock] at he
  · have : b = g := by simpa [Value.ownBlock] using he
    subst this
    obtain ⟨es, clock, hb, _⟩ := h
    have := hb.symm.trans hh
    simp at this
theorem MQ.new (w : World) : MQ (w.alloc (.map #[] 0)) w.heap.size fun _ => none :=
  ⟨#[], 0, heap_alloc_new w _, ⟨by simp, by simp, by simp⟩, by simp, by simp⟩

variable {P : Program} {T K E : TypeId}

theorem keysQ_of {es : Array MapEntry} (h : ∀ x ∈ es.toList, ∃ (a : Int) (v : Value), x.key = .int .i64 a ∧ x.val = v) : ∀ x ∈ es.toList, IsKey (.int .i64) x.key := fun x hx => by
  obtain ⟨a, v, h1, _⟩ := h x hx
  rw [h1]
  simp [IsKey]

theorem MQ.find (h : MQ w b f) (k : Int) : ∃ es clock, w.heap[b]? = some (.map es clock) ∧ Stamped es clock ∧ (∀ x ∈ es.toList, ∃ (a : Int) (v : Value), x.key = .int .i64 a ∧ x.val = v) ∧
    (∀ (a : Int) (v : Value), f a = some v ↔ ∃ x ∈ es.toList, x.key = .int .i64 a ∧ x.val = v) ∧
    ((f k = none ∧ Instr.findNow (.int .i64) (.int .i64 k) es.toList 0 = some none ∧ ∀ x ∈ es.toList, x.key ≠ .int .i64 k) ∨
     ∃ (v : Value) (j : Nat) (e : MapEntry), f k = some v ∧ Instr.findNow (.int .i64) (.int .i64 k) es.toList 0 = some (some (j, v)) ∧ es.toList[j]? = some e ∧ e.key = .int .i64 k ∧ e.val = v) := by
  obtain ⟨es, clock, hb, hs, hk, hf⟩ := h
  refine ⟨es, clock, hb, hs, hk, hf, ?_⟩
  rcases findNow_spec (d := .int .i64) (k := .int .i64 k) (by simp [IsKey]) es.toList 0 (keysQ_of hk) with ⟨h1, h2⟩ | ⟨j, e, h1, h2, h3⟩
  · left
    refine ⟨?_, h1, h2⟩
    cases hfk : f k with
    | none => rfl
    | some v =>
      obtain ⟨x, hx, h4, _⟩ := (hf k v).1 hfk
      exact absurd h4 (h2 x hx)
  · right
    obtain ⟨a, v, h4, h5⟩ := hk e (List.mem_of_getElem? h2)
    rw [h3] at h4
    cases h4
    refine ⟨v, j, e, (hf k v).2 ⟨e, List.mem_of_getElem? h2, h3, h5⟩, ?_, h2, h3, h5⟩
    rw [h1, Nat.zero_add, h5]

theorem MQ.lookup_ok (h : MQ w b f) (hT : P.underlying T = some (.map K E)) (hK : P.underlying K = some (.int .i64)) {z : Value} (hz : ∀ w, (zeroValue E).run P w = .ok z w) (k : Int) :
    (Instr.lookup T (.map (some b)) (.int .i64 k) true).run P w = .ok (.tuple #[(f k).getD z, .bool (f k).isSome]) w := by
  obtain ⟨es, clock, hb, hs, hk, hf, hc⟩ := h.find k
  have hik : IsKey (.int .i64) (.int .i64 k) := by simp [IsKey]
  rcases hc with ⟨h1, h2, _⟩ | ⟨v, j, e, h1, h2, _⟩
  · simp [Instr.lookup, run_underlying hT, MapKept.run_getObj_map hb, run_checkKey hK hik, run_findKey hK h2, hz, h1, Result.andThen]
  · simp [Instr.lookup, run_underlying hT, MapKept.run_getObj_map hb, run_checkKey hK hik, run_findKey hK h2, h1, Result.andThen]

def updV (f : Int → Option Value) (k : Int) (v : Option Value) : Int → Option Value := fun x => if x = k then v else f x

theorem MQ.turn {es : Array MapEntry} {clock : Nat} {k : Int} {_v u : Value} {j : Nat} {e : MapEntry} (hb : w.heap[b]? = some (.map es clock)) (hs : Stamped es clock) (hk : ∀ x ∈ es.toList, ∃ (a : Int) (v : Value), x.key = .int .i64 a ∧ x.val = v)
    (hf : ∀ (a : Int) (v : Value), f a = some v ↔ ∃ x ∈ es.toList, x.key = .int .i64 a ∧ x.val = v) (hj : es.toList[j]? = some e) (he : e.key = .int .i64 k) (g : MapEntry → MapEntry) (hg : (g e).key = .int .i64 k ∧ (g e).val = u ∧ (g e).born = e.born)
    (_hg2 : ∀ e', es[j]? = some e' → (g e').born = e'.born) (_hg3 : ∀ e', es[j]? = some e' → (g e').key = e'.key) :
    MQ (putObj w b (.map (es.modify j g) clock)) b (updV f k (some u)) := by
  refine ⟨es.modify j g, clock, by simp [putObj, lt_of_block hb], ?_, ?_, ?_⟩
  · have hes : es[j]? = some e := by rw [← Array.getElem?_toList]; exact hj
    obtain ⟨s1, s2, s3⟩ := hs
    have hborn : (es.modify j g).toList.map (·.born) = es.toList.map (·.born) := by
      apply List.ext_getElem?
      intro i
      rw [List.getElem?_map, List.getElem?_map, Array.getElem?_toList, Array.getElem?_toList, Array.getElem?_modify]
      by_cases hij : j = i
      · subst hij
        rw [if_pos rfl, hes]
        simp [hg.2.2]
      · rw [if_neg hij]
    have hkey : (es.modify j g).toList.map (·.key) = es.toList.map (·.key) := by
      apply List.ext_getElem?
      intro i
      rw [List.getElem?_map, List.getElem?_map, Array.getElem?_toList, Array.getElem?_toList, Array.getElem?_modify]
      by_cases hij : j = i
      · subst hij
        rw [if_pos rfl, hes]
        simp [hg.1, he]
      · rw [if_neg hij]
    refine ⟨?_, by rw [hborn]; exact s2, by rw [hkey]; exact s3⟩
    intro x hx
    have : x.born ∈ (es.modify j g).toList.map (·.born) := List.mem_map.2 ⟨x, hx, rfl⟩
    rw [hborn] at this
    obtain ⟨y, hy, hyb⟩ := List.mem_map.1 this
    rw [← hyb]
    exact s1 y hy
  · intro x hx
    rcases (mem_modify hs.2.2 hj g x).1 hx with rfl | ⟨h1, _⟩
    · exact ⟨k, u, hg.1, hg.2.1⟩
    · exact hk x h1
  · intro a v'
    unfold updV
    by_cases ha : a = k
    · subst ha
      rw [if_pos rfl]
      constructor
      · intro h
        cases h
        exact ⟨g e, (mem_modify hs.2.2 hj g _).2 (.inl rfl), hg.1, hg.2.1⟩
      · rintro ⟨x, hx, h1, h2⟩
        rcases (mem_modify hs.2.2 hj g x).1 hx with rfl | ⟨_, h3⟩
        · rw [hg.2.1] at h2
          cases h2
          rfl
        · rw [he] at h3
          exact absurd h1 h3
    · rw [if_neg ha, hf]
      constructor
      · rintro ⟨x, hx, h1, h2⟩
        exact ⟨x, (mem_modify hs.2.2 hj g x).2 (.inr ⟨hx, by rw [h1, he]; simpa using ha⟩), h1, h2⟩
      · rintro ⟨x, hx, h1, h2⟩
        rcases (mem_modify hs.2.2 hj g x).1 hx with rfl | ⟨h3, _⟩
        · rw [hg.1] at h1
          cases h1
          exact absurd rfl ha
        · exact ⟨x, h3, h1, h2⟩

theorem MQ.update (h : MQ w b f) (hT : P.underlying T = some (.map K E)) (hK : P.underlying K = some (.int .i64)) (k : Int) (u : Value) :
    ∃ o, (Instr.mapUpdate T (.map (some b)) (.int .i64 k) u).run P w = .ok () (putObj w b o) ∧ MQ (putObj w b o) b (updV f k (some u)) := by
  obtain ⟨es, clock, hb, hs, hk, hf, hc⟩ := h.find k
  have hik : IsKey (.int .i64) (.int .i64 k) := by simp [IsKey]
  rcases hc with ⟨h1, h2, h3⟩ | ⟨v, j, e, h1, h2, hj, he, hv⟩
  · refine ⟨.map (es.push { key := .int .i64 k, val := u, born := clock }) (clock + 1), ?_, ?_⟩
    · simp [Instr.mapUpdate, run_underlying hT, MapKept.run_getObj_map hb, run_checkKey hK hik, run_findKey hK h2, MapKept.run_setObj_map _ hb, Result.andThen, putObj]
    · refine ⟨es.push { key := .int .i64 k, val := u, born := clock }, clock + 1, by simp [putObj, lt_of_block hb], ?_, ?_, ?_⟩
      · obtain ⟨s1, s2, s3⟩ := hs
        refine ⟨?_, ?_, ?_⟩
        · intro x hx
          simp only [Array.toList_push, List.mem_append, List.mem_singleton] at hx
          rcases hx with hx | rfl
          · have := s1 x hx; omega
          · simp
        · simp only [Array.toList_push, List.map_append, List.map_cons, List.map_nil]
          rw [List.nodup_append]
          refine ⟨s2, by simp, ?_⟩
          intro a ha c hc
          simp only [List.mem_singleton] at hc
          subst hc
          obtain ⟨x, hx, rfl⟩ := List.mem_map.1 ha
          have := s1 x hx
          omega
        · simp only [Array.toList_push, List.map_append, List.map_cons, List.map_nil]
          rw [List.nodup_append]
          refine ⟨s3, by simp, ?_⟩
          intro a ha c hc
          simp only [List.mem_singleton] at hc
          subst hc
          obtain ⟨x, hx, rfl⟩ := List.mem_map.1 ha
          exact h3 x hx
      · intro x hx
        simp only [Array.toList_push, List.mem_append, List.mem_singleton] at hx
        rcases hx with hx | rfl
        · exact hk x hx
        · exact ⟨k, u, rfl, rfl⟩
      · intro a v'
        unfold updV
        simp only [Array.toList_push, List.mem_append, List.mem_singleton]
        by_cases ha : a = k
        · subst ha
          rw [if_pos rfl]
          constructor
          · intro h
            cases h
            exact ⟨_, .inr rfl, rfl, rfl⟩
          · rintro ⟨x, hx | rfl, h4, h5⟩
            · exact absurd h4 (h3 x hx)
            · cases h5; rfl
        · rw [if_neg ha, hf]
          constructor
          · rintro ⟨x, hx, h4, h5⟩
            exact ⟨x, .inl hx, h4, h5⟩
          · rintro ⟨x, hx | rfl, h4, h5⟩
            · exact ⟨x, hx, h4, h5⟩
            · cases h4; exact absurd rfl ha
  · have hes : es[j]? = some e := by rw [← Array.getElem?_toList]; exact hj
    refine ⟨.map (es.modify j fun x => { x with key := .int .i64 k, val := u }) clock, ?_, ?_⟩
    · simp [Instr.mapUpdate, run_underlying hT, MapKept.run_getObj_map hb, run_checkKey hK hik, run_findKey hK h2, hes, he, run_keyThatStays hik, MapKept.run_setObj_map _ hb, Result.andThen, putObj]
    · exact MQ.turn (_v := v) hb hs hk hf hj he _ ⟨rfl, rfl, rfl⟩ (fun _ _ => rfl) (fun e' h' => by rw [hes] at h'; cases h'; exact he.symm)

theorem MQ.delete (h : MQ w b f) (hT : P.underlying T = some (.map K E)) (hK : P.underlying K = some (.int .i64)) (k : Int) (ty : TypeId) (T2 : TypeId) :
    ∃ o, (Builtin.delete_ #[T, T2] ty #[.map (some b), .int .i64 k]).run P w = .ok (.tuple #[]) (putObj w b o) ∧ MQ (putObj w b o) b (updV f k none) := by
  obtain ⟨es, clock, hb, hs, hk, hf, hc⟩ := h.find k
  have hik : IsKey (.int .i64) (.int .i64 k) := by simp [IsKey]
  rcases hc with ⟨h1, h2, h3⟩ | ⟨v, j, e, h1, h2, hj, he, hv⟩
  · refine ⟨.map es clock, ?_, ?_⟩
    · simp [Builtin.delete_, run_underlying hT, MapKept.run_getObj_map hb, run_checkKey hK hik, run_findKey hK h2, MapKept.run_setObj_map _ hb, Result.andThen, putObj]
    · refine ⟨es, clock, by simp [putObj, lt_of_block hb], hs, hk, ?_⟩
      intro a v'
      unfold updV
      by_cases ha : a = k
      · subst ha
        rw [if_pos rfl]
        constructor
        · intro h; cases h
        · rintro ⟨x, hx, h4, _⟩
          exact absurd h4 (h3 x hx)
      · rw [if_neg ha]; exact hf a v'
  · refine ⟨.map (es.eraseIdxIfInBounds j) clock, ?_, ?_⟩
    · simp [Builtin.delete_, run_underlying hT, MapKept.run_getObj_map hb, run_checkKey hK hik, run_findKey hK h2, MapKept.run_setObj_map _ hb, Result.andThen, putObj]
    · refine ⟨es.eraseIdxIfInBounds j, clock, by simp [putObj, lt_of_block hb], stamped_erase hs j, ?_, ?_⟩
      · intro x hx
        exact hk x ((mem_erase hs.2.2 hj x).1 hx).1
      · intro a v'
        unfold updV
        by_cases ha : a = k
        · subst ha
          rw [if_pos rfl]
          constructor
          · intro h; cases h
          · rintro ⟨x, hx, h4, _⟩
            have := ((mem_erase hs.2.2 hj x).1 hx).2
            rw [he] at this
            exact absurd h4 this
        · rw [if_neg ha, hf]
          constructor
          · rintro ⟨x, hx, h4, h5⟩
            exact ⟨x, (mem_erase hs.2.2 hj x).2 ⟨hx, by rw [h4, he]; simpa using ha⟩, h4, h5⟩
          · rintro ⟨x, hx, h4, h5⟩
            exact ⟨x, ((mem_erase hs.2.2 hj x).1 hx).1, h4, h5⟩

theorem MQ.lookup (h : MQ w b f) (hT : P.underlying T = some (.map K E)) (hK : P.underlying K = some (.int .i64)) {z : Value} (hz : ∀ w, (zeroValue E).run P w = .ok z w) (k : Int) :
    (Instr.lookup T (.map (some b)) (.int .i64 k) false).run P w = .ok ((f k).getD z) w := by
  obtain ⟨es, clock, hb, hs, hk, hf, hc⟩ := h.find k
  have hik : IsKey (.int .i64) (.int .i64 k) := by simp [IsKey]
  rcases hc with ⟨h1, h2, _⟩ | ⟨v, j, e, h1, h2, _⟩
  · simp [Instr.lookup, run_underlying hT, MapKept.run_getObj_map hb, run_checkKey hK hik, run_findKey hK h2, hz, h1, Result.andThen]
  · simp [Instr.lookup, run_underlying hT, MapKept.run_getObj_map hb, run_checkKey hK hik, run_findKey hK h2, h1, Result.andThen]

def MR (w : World) (r b : Nat) (f : Int → Option Value) (done : List Int) : Prop :=
  MQ w b f ∧ done.Nodup ∧ ∃ es clock since seen c0, w.heap[b]? = some (.map es clock) ∧ Stamped es clock ∧ (∀ x ∈ es.toList, ∃ (a : Int) (v : Value), x.key = .int .i64 a ∧ x.val = v) ∧ w.heap[r]? = some (.mapIter (some b) since seen c0) ∧ (∀ x ∈ es.toList, x.born < since) ∧ since ≤ c0 ∧ since ≤ clock ∧
    (∀ a v, f a = some v ↔ ∃ x ∈ es.toList, x.key = .int .i64 a ∧ x.val = v) ∧ ∀ a, a ∈ done ↔ ∃ x ∈ es.toList, x.key = .int .i64 a ∧ seen.contains x.born = true
theorem MR.lt {r : Nat} {done : List Int} (h : MR w r b f done) : r < w.heap.size := by
  obtain ⟨_, _, es, clock, since, seen, c0, _, _, _, hr, _⟩ := h
  exact (Array.getElem?_eq_some_iff.1 hr).1
theorem MR.ne {r : Nat} {done : List Int} (h : MR w r b f done) : r ≠ b := by
  obtain ⟨_, _, es, clock, since, seen, c0, hb, _, _, hr, _⟩ := h
  rintro rfl
  rw [hb] at hr
  cases hr
theorem MR.move {r : Nat} {done : List Int} (h : MR w r b f done) (he : w'.heap[b]? = w.heap[b]?) (hr' : w'.heap[r]? = w.heap[r]?) : MR w' r b f done := by
  obtain ⟨hm, hn, es, clock, since, seen, c0, hb, hs, hk, hr, rest⟩ := h
  exact ⟨hm.move he, hn, es, clock, since, seen, c0, he.trans hb, hs, hk, hr'.trans hr, rest⟩
theorem MR.below {r : Nat} {done : List Int} (h : MR w r b f done) (hb : Below w.heap.size w w') : MR w' r b f done := h.move (hb.block b h.1.lt) (hb.block r h.lt)
theorem MR.all {r : Nat} {done : List Int} (h : MR w r b f done) : ∀ a ∈ done, ∃ v, f a = some v := by
  obtain ⟨_, _, es, clock, since, seen, c0, _, _, _, _, _, _, _, hf, hd⟩ := h
  intro a ha
  obtain ⟨x, hx, hxa, _⟩ := (hd a).1 ha
  exact ⟨x.val, (hf a _).2 ⟨x, hx, hxa, rfl⟩⟩

theorem MQ.range (h : MQ w b f) (hT : P.underlying T = some (.map K E)) :
    ∃ o, (Instr.range T (.map (some b))).run P w = .ok (.pointer (some ⟨w.heap.size, 0, none⟩)) (w.alloc o) ∧ MR (w.alloc o) w.heap.size b f [] := by
  have h0 := h
  obtain ⟨es, clock, hb, hs, hk, hf⟩ := h
  exact ⟨_, run_range_map w T K E b es clock hT hb, h0.al, List.nodup_nil, es, clock, clock, #[], clock, (Below.heap_alloc w _ b h0.lt).trans hb, hs, hk, heap_alloc_new w _, hs.1, Nat.le_refl _, Nat.le_refl _, hf, fun a => by simp⟩

theorem MR.next {r : Nat} {done : List Int} (h : MR w r b f done) (ty : TypeId) :
    ((∀ a v, f a = some v → a ∈ done) ∧ (Instr.next (.pointer (some ⟨r, 0, none⟩)) false ty).run P w = .ok (.tuple #[.bool false]) w) ∨
    ∃ a v w', f a = some v ∧ a ∉ done ∧ (Instr.next (.pointer (some ⟨r, 0, none⟩)) false ty).run P w = .ok (.tuple #[.bool true, .int .i64 a, v]) w' ∧ MR w' r b f (done ++ [a]) ∧ w.grownBy w' (some r) ∧ w'.heap.size = w.heap.size ∧
      (Instr.entry (.pointer (some ⟨r, 0, none⟩))).run P w' = .ok (.tuple #[.int .i64 a, v]) w' := by
  have hne := h.ne
  obtain ⟨hm, hn, es, clock, since, seen, c0, hb, hs, hk, hr, hold, hsc, hsk, hf, hd⟩ := h
  rcases run_next_at (P := P) w ty r b since c0 seen es clock hr hb hold hsc with ⟨h0, hrun⟩ | ⟨e, he, w1, hal, hrun⟩
  · refine .inl ⟨fun a v hv => ?_, hrun⟩
    obtain ⟨x, hx, hxa, _⟩ := (hf a v).1 hv
    exact (hd a).2 ⟨x, hx, hxa, all_seen es seen h0 x hx⟩
  · obtain ⟨hem, hes⟩ := Go.mem_left he
    obtain ⟨a, v, hea, hev⟩ := hk e hem
    have hr1 : w1.heap[r]? = some (.mapIter (some b) since seen c0) := by rcases hal with rfl | rfl <;> exact hr
    have hb1 : w1.heap[b]? = some (.map es clock) := by rcases hal with rfl | rfl <;> exact hb
    have hset := heap_set (o' := .mapIter (some b) since (seen.push e.born) clock) hr1
    have hb' : (ChangeMaps.setBlock w1 r (.mapIter (some b) since (seen.push e.born) clock)).heap[b]? = some (.map es clock) := (hset.2 b (fun e1 => hne e1.symm)).trans hb1
    have huniq : ∀ x ∈ es.toList, x.key = .int .i64 a → x = e := fun x hx hxa => by
      have hp := ((stamped_iff es clock).1 hs).2.2
      rcases List.mem_iff_getElem.1 hx with ⟨i, hi, rfl⟩
      rcases List.mem_iff_getElem.1 hem with ⟨j, hj, rfl⟩
      rcases Nat.lt_trichotomy i j with h1 | h1 | h1
      · exact absurd (hxa.trans hea.symm) (List.pairwise_iff_getElem.1 hp i j hi hj h1)
      · subst h1; rfl
      · exact absurd (hea.trans hxa.symm) (List.pairwise_iff_getElem.1 hp j i hj hi h1)
    have hnd : a ∉ done := fun hh => by
      obtain ⟨x, hx, hxa, hxs⟩ := (hd a).1 hh
      rw [huniq x hx hxa, hes] at hxs
      cases hxs
    refine .inr ⟨a, v, _, (hf a v).2 ⟨e, hem, hea, hev⟩, hnd, by rw [hrun, hea, hev], ⟨?_, ?_, es, clock, since, seen.push e.born, clock, hb', hs, hk, hset.1, hold, hsk, hsk, hf, fun a' => ?_⟩, ?_, ?_, ?_⟩
    · exact hm.move (hb'.trans hb.symm)
    · rw [List.nodup_append]
      exact ⟨hn, by simp, fun x hx y hy => by simp at hy; subst hy; rintro rfl; exact hnd hx⟩
    · rw [List.mem_append, List.mem_singleton, hd a']
      constructor
      · rintro (⟨x, hx, hxa, hxs⟩ | rfl)
        · exact ⟨x, hx, hxa, by rw [Go.contains_push, hxs]; rfl⟩
        · exact ⟨e, hem, hea, by rw [Go.contains_push]; simp⟩
      · rintro ⟨x, hx, hxa, hxs⟩
        rw [Go.contains_push] at hxs
        rcases Bool.or_eq_true_iff.1 hxs with h1 | h1
        · exact .inl ⟨x, hx, hxa, h1⟩
        · have hxe : x = e := Go.born_inj ((stamped_iff es clock).1 hs).2.1 hx hem (beq_iff_eq.1 h1)
          subst hxe
          rw [hea] at hxa
          cases hxa
          exact .inr rfl
    · rcases hal with rfl | rfl <;> exact ⟨rfl, rfl, rfl, by simp [ChangeMaps.setBlock], fun i _ hi => hset.2 i (fun e1 => hi (by rw [e1]))⟩
    · rcases hal with rfl | rfl <;> simp [ChangeMaps.setBlock]
    · rw [run_entry_at _ r b since seen es clock e hset.1 hb' hem ((stamped_iff es clock).1 hs).2.1, hea, hev]

def MS (w : World) (b : Nat) (f : Int → Option Value) (k : Int) (st : Nat) : Prop :=
  ∃ es clock, w.heap[b]? = some (.map es clock) ∧ Stamped es clock ∧ (∀ x ∈ es.toList, ∃ (a : Int) (v : Value), x.key = .int .i64 a ∧ x.val = v) ∧ (∀ (a : Int) (v : Value), f a = some v ↔ ∃ x ∈ es.toList, x.key = .int .i64 a ∧ x.val = v) ∧ ∃ e ∈ es.toList, e.key = .int .i64 k ∧ e.born = st
theorem MS.move {k : Int} {st : Nat} (h : MS w b f k st) (he : w'.heap[b]? = w.heap[b]?) : MS w' b f k st := by
  obtain ⟨es, clock, hb, r⟩ := h
  exact ⟨es, clock, he.trans hb, r⟩
theorem mq_same {es : Array MapEntry} {clock : Nat} (hb : w.heap[b]? = some (.map es clock)) : putObj w b (.map es clock) = w := by
  have : w.heap.setIfInBounds b (.map es clock) = w.heap := by
    apply Array.ext_getElem?
    intro i
    rw [Array.getElem?_setIfInBounds]
    split
    · rename_i hi
      subst hi
      rw [if_pos (lt_of_block hb), hb]
    · rfl
  unfold putObj
  rw [this]
theorem MQ.entry (h : MQ w b f) (hT : P.underlying T = some (.map K E)) (hK : P.underlying K = some (.int .i64)) {z : Value} (hz : ∀ w, (zeroValue E).run P w = .ok z w) (k : Int) :
    ∃ (st : Nat) (o : Obj), (Instr.mapEntry T (.map (some b)) (.int .i64 k)).run P w = .ok (.tuple #[(f k).getD z, .int .i64 (st : Int)]) (putObj w b o) ∧ MS (putObj w b o) b (updV f k (some ((f k).getD z))) k st := by
  have hup := h.update hT hK k ((f k).getD z)
  obtain ⟨es, clock, hb, hs, hk, hf, hc⟩ := h.find k
  have hik : IsKey (.int .i64) (.int .i64 k) := by simp [IsKey]
  rcases hc with ⟨h1, h2, h3⟩ | ⟨v', j, e, h1, h2, hj, he, hv'⟩
  · refine ⟨clock, .map (es.push { key := .int .i64 k, val := z, born := clock }) (clock + 1), ?_, ?_⟩
    · simp [Instr.mapEntry, run_underlying hT, MapKept.run_getObj_map hb, run_checkKey hK hik, run_findKey hK h2, MapKept.run_setObj_map _ hb, Result.andThen, putObj, hz, h1, goInt]
    · obtain ⟨o, hr, hm⟩ := hup
      rw [h1] at hr hm ⊢
      have ho : (Instr.mapUpdate T (.map (some b)) (.int .i64 k) z).run P w = .ok () (putObj w b (.map (es.push { key := .int .i64 k, val := z, born := clock }) (clock + 1))) := by
        simp [Instr.mapUpdate, run_underlying hT, MapKept.run_getObj_map hb, run_checkKey hK hik, run_findKey hK h2, MapKept.run_setObj_map _ hb, Result.andThen, putObj]
      have he2 : putObj w b o = putObj w b (.map (es.push { key := .int .i64 k, val := z, born := clock }) (clock + 1)) := by
        have h5 := hr.symm.trans ho
        simpa using h5
      rw [he2] at hm
      obtain ⟨es', c', a1, a2, a3, a4⟩ := hm
      have a5 : (putObj w b (.map (es.push { key := .int .i64 k, val := z, born := clock }) (clock + 1))).heap[b]? = some (.map (es.push { key := .int .i64 k, val := z, born := clock }) (clock + 1)) := by simp [putObj, lt_of_block hb]
      rw [a5] at a1
      cases a1
      exact ⟨_, _, a5, a2, a3, a4, { key := .int .i64 k, val := z, born := clock }, by simp, rfl, rfl⟩
  · have hes : es[j]? = some e := by rw [← Array.getElem?_toList]; exact hj
    have hsame : es.modify j (fun x => { x with key := .int .i64 k }) = es := by
      apply Array.ext_getElem?
      intro i
      rw [Array.getElem?_modify]
      by_cases hij : j = i
      · subst hij
        rw [if_pos rfl, hes]
        simp only [Option.map_some]
        rw [← he]
      · rw [if_neg hij]
    have hup2 : updV f k (some v') = f := by
      funext a
      unfold updV
      by_cases ha : a = k
      · rw [if_pos ha, ha, h1]
      · rw [if_neg ha]
    refine ⟨e.born, .map es clock, ?_, ?_⟩
    · have hw := mq_same hb
      unfold putObj at hw
      simp [Instr.mapEntry, run_underlying hT, MapKept.run_getObj_map hb, run_checkKey hK hik, run_findKey hK h2, hes, he, run_keyThatStays hik, MapKept.run_setObj_map _ hb, Result.andThen, hsame, goInt, h1, putObj]
    · rw [mq_same hb, h1, Option.getD_some, hup2]
      exact ⟨es, clock, hb, hs, hk, hf, e, List.mem_of_getElem? hj, he, rfl⟩
theorem MS.store {k : Int} {st : Nat} (h : MS w b f k st) (u : Value) :
    ∃ o : Obj, (Instr.entryStore T (.map (some b)) (.int .i64 (st : Int)) u).run P w = .ok () (putObj w b o) ∧ MQ (putObj w b o) b (updV f k (some u)) := by
  obtain ⟨es, clock, hb, hs, hk, hf, e, hem, he, hst⟩ := h
  obtain ⟨j, hj⟩ := List.getElem?_of_mem hem
  have hes : es[j]? = some e := by rw [← Array.getElem?_toList]; exact hj
  have hjl : j < es.size := (Array.getElem?_eq_some_iff.1 hes).1
  have hfi : es.findIdx? (fun x => (x.born : Int) == (st : Int)) = some j := by
    rw [Array.findIdx?_eq_some_iff_getElem]
    refine ⟨hjl, ?_, ?_⟩
    · rw [(Array.getElem?_eq_some_iff.1 hes).2, hst]; simp
    · intro i hi
      have hin : ¬ (es[i].born = st) := by
        intro hbe
        have hn := hs.2.1
        have h5 : (es.toList.map (·.born))[i]'(by simp; omega) = (es.toList.map (·.born))[j]'(by simpa using hjl) := by
          simp only [List.getElem_map, Array.getElem_toList]
          rw [hbe, (Array.getElem?_eq_some_iff.1 hes).2, hst]
        have := nodup_inj hn _ _ h5
        omega
      simp only [beq_iff_eq, Int.natCast_inj]
      exact hin
  refine ⟨.map (es.modify j fun x => { x with val := u }) clock, ?_, ?_⟩
  · simp [Instr.entryStore, MapKept.run_getObj_map hb, MapKept.run_setObj_map _ hb, Result.andThen, hfi, putObj, asInt, asIntOf]
  · exact MQ.turn (_v := u) hb hs hk hf hj he _ ⟨he, rfl, rfl⟩ (fun _ _ => rfl) (fun e' h' => rfl)
end
end Go.Proofs.YtgihncjllelonaaGreat.Mem

/- What a step keeps: all old blocks but those that p names. -/
namespace Go.Proofs.YtgihncjllelonaaGreat.Mem
set_option linter.unusedSimpArgs false
set_option linter.unusedVariables false
open Go Go.RowKit

structure Kpt (p : Nat → Prop) (w w' : World) : Prop where
  os : w'.os = w.os
  tape : w'.tape = w.tape
  output : w'.output = w.output
  size : w.heap.size ≤ w'.heap.size
  block : ∀ k, k < w.heap.size → ¬ p k → w'.heap[k]? = w.heap[k]?

section
variable {p p' : Nat → Prop} {w w' a b c : World}
theorem Kpt.refl (p : Nat → Prop) (w : World) : Kpt p w w := ⟨rfl, rfl, rfl, Nat.le_refl _, fun _ _ _ => rfl⟩
theorem Kpt.trans (h : Kpt p a b) (k : Kpt p b c) : Kpt p a c :=
  ⟨k.os.trans h.os, k.tape.trans h.tape, k.output.trans h.output, Nat.le_trans h.size k.size, fun i hi hn => (k.block i (Nat.lt_of_lt_of_le hi h.size) hn).trans (h.block i hi hn)⟩
theorem Kpt.mono (h : Kpt p w w') (hp : ∀ k, k < w.heap.size → p k → p' k) : Kpt p' w w' := ⟨h.os, h.tape, h.output, h.size, fun k hk hn => h.block k hk (fun x => hn (hp k hk x))⟩
theorem Kpt.trans' (h : Kpt p a b) (k : Kpt p' b c) (hp : ∀ i, i < a.heap.size → p' i → p i) : Kpt p a c :=
  ⟨k.os.trans h.os, k.tape.trans h.tape, k.output.trans h.output, Nat.le_trans h.size k.size, fun i hi hn => (k.block i (Nat.lt_of_lt_of_le hi h.size) (fun x => hn (hp i hi x))).trans (h.block i hi hn)⟩
theorem Kpt.drewN (h : Kpt p a b) (n : Nat) : Kpt p a (b.drewN n) := ⟨h.os, h.tape, h.output, h.size, h.block⟩
theorem Kpt.drew (h : Kpt p a b) : Kpt p a b.drew := ⟨h.os, h.tape, h.output, h.size, h.block⟩
theorem Kpt.alloc (h : Kpt p a b) (o : Obj) : Kpt p a (b.alloc o) :=
  h.trans ⟨rfl, rfl, rfl, by simp, fun k hk _ => Below.heap_alloc _ _ _ hk⟩
theorem Kpt.set (h : Kpt p a b) {q : Addr} (hq : q.block < a.heap.size → p q.block) (u : Value) : Kpt p a (b.setCell q u) :=
  ⟨h.os, h.tape, h.output, by have := h.size; simpa [World.setCell] using this, fun k hk hn => by
    rw [Below.heap_setCell _ _ _ _ (fun e => hn (by subst e; exact hq hk))]
    exact h.block k hk hn⟩
theorem Kpt.grown (h : Kpt p a b) {row : Option Nat} (hg : b.grownBy c row) (hr : ∀ k, row = some k → k < a.heap.size → p k) : Kpt p a c :=
  ⟨hg.os.trans h.os, hg.tape.trans h.tape, hg.output.trans h.output, Nat.le_trans h.size hg.size, fun k hk hn => (hg.block k (Nat.lt_of_lt_of_le hk h.size) (fun e => hn (hr k e.symm hk))).trans (h.block k hk hn)⟩
theorem Kpt.below (h : Kpt p a b) (k : Below b.heap.size b c) : Kpt p a c :=
  ⟨k.os.trans h.os, k.tape.trans h.tape, k.output.trans h.output, Nat.le_trans h.size k.size, fun i hi hn => (k.block i (Nat.lt_of_lt_of_le hi h.size)).trans (h.block i hi hn)⟩
theorem Kpt.of_below (k : Below w.heap.size w w') : Kpt p w w' := (Kpt.refl p w).below k
theorem Kpt.to_below (h : Kpt p a b) {B : Nat} (hB : ∀ k, k < B → k < a.heap.size ∧ ¬ p k) : Below B a b := ⟨h.os, h.tape, h.output, h.size, fun k hk => h.block k (hB k hk).1 (hB k hk).2⟩
theorem Kpt.none (h : Kpt (fun _ => False) a b) : Below a.heap.size a b := h.to_below fun _ hk => ⟨hk, id⟩
theorem Below.drN {B : Nat} (h : Below B a b) (n : Nat) : Below B a (b.drewN n) := ⟨h.os, h.tape, h.output, h.size, h.block⟩
theorem At.kept {g : Nat} {cs : List Value} {T : TypeId} (h : At w g cs T) (hk : Kpt p w w') (hp : ¬ p g) : At w' g cs T := (hk.block g h.lt hp).trans h
theorem At.not {g g' : Nat} {cs cs' : List Value} {T T' : TypeId} (h : At w g cs T) (h' : At w g' cs' T') (hne : T ≠ T') : ¬ g = g' := h.ne h' hne
theorem At.same {g : Nat} {cs cs' : List Value} {T T' : TypeId} (h : At w g cs T) (h' : At w g cs' T') : cs = cs' ∧ T = T' := by
  have := h.symm.trans h'
  simp at this
  exact ⟨this.1, this.2⟩
end
end Go.Proofs.YtgihncjllelonaaGreat.Mem

/- Plain: costs as floats: their order, their sums. -/
namespace Go.Proofs.YtgihncjllelonaaGreat.Wt
set_option linter.unusedSimpArgs false
set_option linter.unusedVariables false

def V (a : Nat) : Nat := if a < 8388608 then a else (8388608 + a % 8388608) * 2 ^ (a / 8388608 - 1)
theorem bin_eq : Ieee.single.binade = 8388608 := rfl
theorem inf_eq : Ieee.single.infRung = 2139095040 := rfl
theorem sgn_eq : Ieee.single.signWeight = 2147483648 := rfl
theorem read_small {a : Nat} (h : a < 8388608) : Ieee.single.read a = .number false a Ieee.single.leastPlace := by
  unfold Ieee.Format.read
  rw [sgn_eq, bin_eq]
  have h1 : a / 2147483648 = 0 := Nat.div_eq_of_lt (by omega)
  have h2 : a % 2147483648 = a := Nat.mod_eq_of_lt (by omega)
  simp only [h1, h2]
  rw [if_pos h]
  rfl
theorem read_norm {a : Nat} (h : ¬ a < 8388608) (h' : a < 2139095040) : Ieee.single.read a = .number false (8388608 + a % 8388608) (Ieee.single.leastPlace + (a / 8388608 - 1 : Nat)) := by
  unfold Ieee.Format.read
  rw [sgn_eq, bin_eq, inf_eq]
  have h1 : a / 2147483648 = 0 := Nat.div_eq_of_lt (by omega)
  have h2 : a % 2147483648 = a := Nat.mod_eq_of_lt (by omega)
  simp only [h1, h2]
  rw [if_neg h, if_pos h']
  rfl
theorem read_inf : Ieee.single.read 2139095040 = .infinity false := rfl
theorem read_fin {a : Nat} (h : a < 2139095040) : ∃ (m : Nat) (e : Nat), Ieee.single.read a = .number false m (Ieee.single.leastPlace + (e : Int)) ∧ V a = m * 2 ^ e := by
  unfold V
  by_cases h1 : a < 8388608
  · exact ⟨a, 0, by rw [read_small h1]; simp, by rw [if_pos h1]; simp⟩
  · exact ⟨8388608 + a % 8388608, a / 8388608 - 1, read_norm h1 h, by rw [if_neg h1]⟩
theorem V_lt {a b : Nat} (h : a < b) : V a < V b := by
  unfold V
  by_cases h1 : b < 8388608
  · rw [if_pos h1, if_pos (by omega)]; exact h
  · rw [if_neg h1]
    have hb : 1 ≤ b / 8388608 := by omega
    obtain ⟨q, hq⟩ : ∃ q, b / 8388608 = q + 1 := ⟨b / 8388608 - 1, by omega⟩
    have hp := Nat.two_pow_pos q
    by_cases h2 : a < 8388608
    · rw [if_pos h2, hq, Nat.add_sub_cancel]
      calc a < 8388608 * 1 := by omega
        _ ≤ (8388608 + b % 8388608) * 2 ^ q := Nat.mul_le_mul (by omega) hp
    · rw [if_neg h2]
      obtain ⟨r, hr⟩ : ∃ r, a / 8388608 = r + 1 := ⟨a / 8388608 - 1, by omega⟩
      rw [hq, hr, Nat.add_sub_cancel, Nat.add_sub_cancel]
      by_cases h3 : r = q
      · subst h3
        exact Nat.mul_lt_mul_of_pos_right (by omega) hp
      · have h4 : r < q := by omega
        calc (8388608 + a % 8388608) * 2 ^ r < (8388608 * 2) * 2 ^ r := Nat.mul_lt_mul_of_pos_right (by omega) (Nat.two_pow_pos r)
          _ = 8388608 * 2 ^ (r + 1) := by rw [Nat.pow_succ, Nat.mul_assoc, Nat.mul_comm 2]
          _ ≤ (8388608 + b % 8388608) * 2 ^ q := Nat.mul_le_mul (by omega) (Nat.pow_le_pow_right (by omega) (by omega))
theorem V_le_iff {a b : Nat} : V a ≤ V b ↔ a ≤ b := by
  constructor
  · intro h
    apply Nat.le_of_not_lt
    intro hc
    have := V_lt hc
    omega
  · intro h
    rcases Nat.lt_or_eq_of_le h with h | rfl
    · exact Nat.le_of_lt (V_lt h)
    · exact Nat.le_refl _
theorem signed_false (m up : Nat) : Ieee.signed false m up = ((m * 2 ^ up : Nat) : Int) := by
  unfold Ieee.signed
  simp [Nat.shiftLeft_eq]
theorem cmp_lt {x y : Int} (h : x < y) : compare x y = .lt := by
  show compareOfLessAndEq x y = _
  unfold compareOfLessAndEq
  rw [if_pos h]
theorem cmp_eq {x y : Int} (h : x = y) : compare x y = .eq := by
  show compareOfLessAndEq x y = _
  unfold compareOfLessAndEq
  rw [if_neg (by omega), if_pos h]
theorem cmp_gt {x y : Int} (h : y < x) : compare x y = .gt := by
  show compareOfLessAndEq x y = _
  unfold compareOfLessAndEq
  rw [if_neg (by omega), if_neg (by omega)]
theorem order_cost {a b : Nat} (ha : a ≤ 2139095040) (hb : b ≤ 2139095040) : Ieee.single.order a b = some (compare a b) := by
  unfold Ieee.Format.order
  by_cases ha' : a = 2139095040
  · subst ha'
    rw [read_inf]
    by_cases hb' : b = 2139095040
    · subst hb'; rfl
    · obtain ⟨m, e, h1, _⟩ := read_fin (show b < 2139095040 by omega)
      rw [h1]
      show some Ordering.gt = _
      rw [Nat.compare_eq_gt.2 (by omega)]
  · obtain ⟨m, e, h1, v1⟩ := read_fin (show a < 2139095040 by omega)
    rw [h1]
    by_cases hb' : b = 2139095040
    · subst hb'
      rw [read_inf]
      show some Ordering.lt = _
      rw [Nat.compare_eq_lt.2 (by omega)]
    · obtain ⟨n, f, h2, v2⟩ := read_fin (show b < 2139095040 by omega)
      rw [h2]
      show some (compare (Ieee.signed false m _) (Ieee.signed false n _)) = _
      rw [signed_false, signed_false]
      congr 1
      obtain ⟨L, hL⟩ : ∃ L, Ieee.single.leastPlace = L := ⟨_, rfl⟩
      rw [hL]
      have key : ∀ x y : Nat, (x * 2 ^ min e f = V a) → (y * 2 ^ min e f = V b) → compare (x : Int) (y : Int) = compare a b := by
        intro x y hx hy
        have hp := Nat.two_pow_pos (min e f)
        rcases Nat.lt_trichotomy a b with h | h | h
        · rw [Nat.compare_eq_lt.2 h]
          have := V_lt h
          rw [← hx, ← hy] at this
          have := Nat.lt_of_mul_lt_mul_right this
          exact cmp_lt (by omega)
        · rw [h, Nat.compare_eq_eq.2 rfl]
          have : V a = V b := by rw [h]
          rw [← hx, ← hy] at this
          have := Nat.eq_of_mul_eq_mul_right hp this
          exact cmp_eq (by omega)
        · rw [Nat.compare_eq_gt.2 h]
          have := V_lt h
          rw [← hx, ← hy] at this
          have := Nat.lt_of_mul_lt_mul_right this
          exact cmp_gt (by omega)
      refine key _ _ ?_ ?_
      · rw [v1, Nat.mul_assoc, ← Nat.pow_add, show (L + (e : Int) - min (L + (e : Int)) (L + (f : Int))).toNat + min e f = e by omega]
      · rw [v2, Nat.mul_assoc, ← Nat.pow_add, show (L + (f : Int) - min (L + (e : Int)) (L + (f : Int))).toNat + min e f = f by omega]
theorem lt_cost {a b : Nat} (ha : a ≤ 2139095040) (hb : b ≤ 2139095040) : (Ieee.single.order a b == some .lt) = decide (a < b) := by
  rw [order_cost ha hb]
  rcases Nat.lt_trichotomy a b with h | h | h
  · rw [Nat.compare_eq_lt.2 h]; simp [h]
  · rw [Nat.compare_eq_eq.2 h, h]; simp
  · rw [Nat.compare_eq_gt.2 h]; simp; omega
theorem add_cost {a b : Nat} (ha : a ≤ 2139095040) (hb : b ≤ 2139095040) : ∃ r, Ieee.single.add a b = some r ∧ r ≤ 2139095040 := by
  unfold Ieee.Format.add
  by_cases ha' : a = 2139095040
  · subst ha'
    rw [read_inf]
    by_cases hb' : b = 2139095040
    · subst hb'; exact ⟨2139095040, rfl, Nat.le_refl _⟩
    · obtain ⟨m, e, h1, _⟩ := read_fin (show b < 2139095040 by omega)
      rw [h1]
      exact ⟨2139095040, rfl, Nat.le_refl _⟩
  · obtain ⟨m, e, h1, v1⟩ := read_fin (show a < 2139095040 by omega)
    rw [h1]
    by_cases hb' : b = 2139095040
    · subst hb'
      rw [read_inf]
      exact ⟨2139095040, rfl, Nat.le_refl _⟩
    · obtain ⟨n, f, h2, v2⟩ := read_fin (show b < 2139095040 by omega)
      rw [h2]
      refine ⟨_, rfl, ?_⟩
      show Ieee.Format.write Ieee.single (.number (if _ then _ else _) _ _) ≤ _
      simp only [signed_false]
      have hneg : ∀ (x y : Nat), (if ((x : Int) + (y : Int)) = 0 then (false && false) else decide ((x : Int) + (y : Int) < 0)) = false := by
        intro x y
        split
        · rfl
        · simp; omega
      rw [hneg]
      unfold Ieee.Format.write Ieee.Format.nearest Ieee.Format.word
      simp only [inf_eq]
      split
      · simp
      · simp only [Bool.false_eq_true, if_false]
        exact Nat.min_le_right _ _
end Go.Proofs.YtgihncjllelonaaGreat.Wt
