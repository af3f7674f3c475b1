/- A map from int to int in a block of its own, told by what it holds. -/
import Derived.Test.YtgihncjllelonaaHo1
import Derived.MapKept
namespace Go.Proofs.Ytgihncjllelonaa.Mem
set_option linter.unusedSimpArgs false
set_option linter.unusedVariables false
open Go Go.RowKit Go.MapKept

theorem nodup_inj {α : Type} {l : List α} (h : l.Nodup) {i j : Nat} (hi : i < l.length) (hj : j < l.length) (he : l[i] = l[j]) : i = j := by
  rcases Nat.lt_trichotomy i j with h1 | h1 | h1
  · exact absurd he (List.pairwise_iff_getElem.1 h i j hi hj h1)
  · exact h1
  · exact absurd he.symm (List.pairwise_iff_getElem.1 h j i hj hi h1)

def MP (w : World) (b : Nat) (f : Int → Option Int) : Prop :=
  ∃ es clock, w.heap[b]? = some (.map es clock) ∧ Stamped es clock ∧ (∀ x ∈ es.toList, ∃ a v : Int, x.key = .int .i64 a ∧ x.val = .int .i64 v) ∧
    ∀ a v : Int, f a = some v ↔ ∃ x ∈ es.toList, x.key = .int .i64 a ∧ x.val = .int .i64 v

def putObj (w : World) (b : Nat) (o : Obj) : World := { w with heap := w.heap.setIfInBounds b o }
theorem putObj_far {w : World} {b : Nat} {o : Obj} {g : Nat} (h : g ≠ b) : (putObj w b o).heap[g]? = w.heap[g]? := by simp [putObj, Ne.symm h]
theorem At.putObj {w : World} {g : Nat} {cs : List Value} {T : TypeId} (h : At w g cs T) {b : Nat} {o : Obj} (hne : g ≠ b) : At (putObj w b o) g cs T := (putObj_far hne).trans h
theorem putObj_size (w : World) (b : Nat) (o : Obj) : (putObj w b o).heap.size = w.heap.size := by simp [putObj]
theorem below_putObj {B : Nat} {a w : World} (h : Below B a w) {b : Nat} (hb : B ≤ b) (o : Obj) : Below B a (putObj w b o) :=
  ⟨h.os, h.tape, h.output, by rw [putObj_size]; exact h.size, fun k hk => (putObj_far (by omega)).trans (h.block k hk)⟩
theorem own_putObj {w : World} {base b : Nat} {e : TypeId} {size n : Nat} {v : Value} {xs : List Value} (h : w.ownsRow base e size v n xs) {o : Obj} (hb : b < base) : (putObj w b o).ownsRow base e size v n xs := by
  refine ⟨h.1, ?_⟩
  rcases h.2 with h0 | ⟨g, cap, cur, rfl, hg, hh, r⟩
  · exact .inl h0
  · exact .inr ⟨g, cap, cur, rfl, hg, (putObj_far (by omega)).trans hh, r⟩

section
variable {w w' : World} {b : Nat} {f : Int → Option Int}
theorem MP.lt (h : MP w b f) : b < w.heap.size := by
  obtain ⟨es, clock, hb, _⟩ := h
  exact lt_of_block hb
theorem MP.move (h : MP w b f) (he : w'.heap[b]? = w.heap[b]?) : MP w' b f := by
  obtain ⟨es, clock, hb, r⟩ := h
  exact ⟨es, clock, he.trans hb, r⟩
theorem MP.drew (h : MP w b f) : MP w.drew b f := h
theorem MP.drewN (h : MP w b f) (n : Nat) : MP (w.drewN n) b f := h
theorem MP.al (h : MP w b f) {o : Obj} : MP (w.alloc o) b f := h.move (Below.heap_alloc w o b h.lt)
theorem MP.ne (h : MP w b f) {g : Nat} {cs : List Value} {T : TypeId} (hg : At w g cs T) : g ≠ b := by
  rintro rfl
  obtain ⟨es, clock, hb, _⟩ := h
  have := hg.symm.trans hb
  simp at this
theorem MP.off (h : MP w b f) {g i : Nat} {u : Value} (hg : g ≠ b) : MP (w.setCell ⟨g, i, none⟩ u) b f := h.move (heap_setCell_other w ⟨g, i, none⟩ b u hg.symm)
theorem MP.grown (h : MP w b f) {row : Option Nat} (hg : w.grownBy w' row) (hne : some b ≠ row) : MP w' b f := h.move (hg.block b h.lt hne)
theorem MP.below (h : MP w b f) {B : Nat} (hb : Below B w w') (hB : b < B) : MP w' b f := h.move (hb.block b hB)
theorem MP.own (h : MP w b f) {base : Nat} {e : TypeId} {size n : Nat} {v : Value} {xs : List Value} (ho : w.ownsRow base e size v n xs) : some b ≠ v.ownBlock := by
  intro he
  rcases ho.2 with ⟨rfl, _⟩ | ⟨g, cap, cur, rfl, _, hh, _⟩
  · simp [Value.ownBlock] at he
  · have : b = g := by simpa [Value.ownBlock] using he
    subst this
    obtain ⟨es, clock, hb, _⟩ := h
    have := hb.symm.trans hh
    simp at this
theorem MP.new (w : World) : MP (w.alloc (.map #[] 0)) w.heap.size fun _ => none :=
  ⟨#[], 0, heap_alloc_new w _, ⟨by simp, by simp, by simp⟩, by simp, by simp⟩

variable {P : Program} {T K E : TypeId}

theorem keys_of {es : Array MapEntry} (h : ∀ x ∈ es.toList, ∃ a v : Int, x.key = .int .i64 a ∧ x.val = .int .i64 v) : ∀ x ∈ es.toList, IsKey (.int .i64) x.key := fun x hx => by
  obtain ⟨a, v, h1, _⟩ := h x hx
  rw [h1]
  simp [IsKey]

theorem mem_modify {es : Array MapEntry} (hn : (es.toList.map (·.key)).Nodup) {j : Nat} {e : MapEntry} (he : es.toList[j]? = some e) (g : MapEntry → MapEntry) (x : MapEntry) :
    x ∈ (es.modify j g).toList ↔ x = g e ∨ (x ∈ es.toList ∧ x.key ≠ e.key) := by
  have hj : j < es.toList.length := (List.getElem?_eq_some_iff.1 he).1
  have hidx : ∀ i y, es.toList[i]? = some y → y.key = e.key → i = j := by
    intro i y hy hk
    have hi : i < es.toList.length := (List.getElem?_eq_some_iff.1 hy).1
    have h1 : (es.toList.map (·.key))[i]'(by simpa using hi) = (es.toList.map (·.key))[j]'(by simpa using hj) := by
      rw [List.getElem_map, List.getElem_map, (List.getElem?_eq_some_iff.1 hy).2, (List.getElem?_eq_some_iff.1 he).2, hk]
    exact nodup_inj hn _ _ h1
  rw [List.mem_iff_getElem?]
  constructor
  · rintro ⟨i, hi⟩
    rw [Array.getElem?_toList, Array.getElem?_modify] at hi
    by_cases hij : j = i
    · subst hij
      rw [if_pos rfl, ← Array.getElem?_toList, he] at hi
      left
      simpa using hi.symm
    · rw [if_neg hij, ← Array.getElem?_toList] at hi
      right
      exact ⟨List.mem_of_getElem? hi, fun hk => hij (hidx i x hi hk).symm⟩
  · rintro (rfl | ⟨hx, hk⟩)
    · refine ⟨j, ?_⟩
      rw [Array.getElem?_toList, Array.getElem?_modify, if_pos rfl, ← Array.getElem?_toList, he]
      rfl
    · obtain ⟨i, hi⟩ := List.mem_iff_getElem?.1 hx
      refine ⟨i, ?_⟩
      have hij : j ≠ i := by
        rintro rfl
        rw [he] at hi
        cases hi
        exact hk rfl
      rw [Array.getElem?_toList, Array.getElem?_modify, if_neg hij, ← Array.getElem?_toList, hi]

theorem mem_erase {es : Array MapEntry} (hn : (es.toList.map (·.key)).Nodup) {j : Nat} {e : MapEntry} (he : es.toList[j]? = some e) (x : MapEntry) :
    x ∈ (es.eraseIdxIfInBounds j).toList ↔ (x ∈ es.toList ∧ x.key ≠ e.key) := by
  have hj : j < es.toList.length := (List.getElem?_eq_some_iff.1 he).1
  have hidx : ∀ i y, es.toList[i]? = some y → y.key = e.key → i = j := by
    intro i y hy hk
    have hi : i < es.toList.length := (List.getElem?_eq_some_iff.1 hy).1
    have h1 : (es.toList.map (·.key))[i]'(by simpa using hi) = (es.toList.map (·.key))[j]'(by simpa using hj) := by
      rw [List.getElem_map, List.getElem_map, (List.getElem?_eq_some_iff.1 hy).2, (List.getElem?_eq_some_iff.1 he).2, hk]
    exact nodup_inj hn _ _ h1
  have hj' : j < es.size := by simpa using hj
  have h0 : (es.eraseIdxIfInBounds j).toList = es.toList.eraseIdx j := by
    unfold Array.eraseIdxIfInBounds
    rw [dif_pos hj', Array.toList_eraseIdx]
  rw [h0, List.mem_eraseIdx_iff_getElem?]
  constructor
  · rintro ⟨i, hij, hi⟩
    exact ⟨List.mem_of_getElem? hi, fun hk => hij (hidx i x hi hk)⟩
  · rintro ⟨hx, hk⟩
    obtain ⟨i, hi⟩ := List.mem_iff_getElem?.1 hx
    refine ⟨i, ?_, hi⟩
    rintro rfl
    rw [he] at hi
    cases hi
    exact hk rfl

theorem MP.find (h : MP w b f) (k : Int) : ∃ es clock, w.heap[b]? = some (.map es clock) ∧ Stamped es clock ∧ (∀ x ∈ es.toList, ∃ a v : Int, x.key = .int .i64 a ∧ x.val = .int .i64 v) ∧
    (∀ a v : Int, f a = some v ↔ ∃ x ∈ es.toList, x.key = .int .i64 a ∧ x.val = .int .i64 v) ∧
    ((f k = none ∧ Instr.findNow (.int .i64) (.int .i64 k) es.toList 0 = some none ∧ ∀ x ∈ es.toList, x.key ≠ .int .i64 k) ∨
     ∃ (v : Int) (j : Nat) (e : MapEntry), f k = some v ∧ Instr.findNow (.int .i64) (.int .i64 k) es.toList 0 = some (some (j, .int .i64 v)) ∧ es.toList[j]? = some e ∧ e.key = .int .i64 k ∧ e.val = .int .i64 v) := by
  obtain ⟨es, clock, hb, hs, hk, hf⟩ := h
  refine ⟨es, clock, hb, hs, hk, hf, ?_⟩
  rcases findNow_spec (d := .int .i64) (k := .int .i64 k) (by simp [IsKey]) es.toList 0 (keys_of hk) with ⟨h1, h2⟩ | ⟨j, e, h1, h2, h3⟩
  · left
    refine ⟨?_, h1, h2⟩
    cases hfk : f k with
    | none => rfl
    | some v =>
      obtain ⟨x, hx, h4, _⟩ := (hf k v).1 hfk
      exact absurd h4 (h2 x hx)
  · right
    obtain ⟨a, v, h4, h5⟩ := hk e (List.mem_of_getElem? h2)
    rw [h3] at h4
    cases h4
    refine ⟨v, j, e, (hf k v).2 ⟨e, List.mem_of_getElem? h2, h3, h5⟩, ?_, h2, h3, h5⟩
    rw [h1, Nat.zero_add, h5]

theorem MP.lookup_ok (h : MP w b f) (hT : P.underlying T = some (.map K E)) (hK : P.underlying K = some (.int .i64)) (hz : ∀ w, (zeroValue E).run P w = .ok (.int .i64 0) w) (k : Int) :
    (Instr.lookup T (.map (some b)) (.int .i64 k) true).run P w = .ok (.tuple #[.int .i64 ((f k).getD 0), .bool (f k).isSome]) w := by
  obtain ⟨es, clock, hb, hs, hk, hf, hc⟩ := h.find k
  have hik : IsKey (.int .i64) (.int .i64 k) := by simp [IsKey]
  rcases hc with ⟨h1, h2, _⟩ | ⟨v, j, e, h1, h2, _⟩
  · simp [Instr.lookup, run_underlying hT, MapKept.run_getObj_map hb, run_checkKey hK hik, run_findKey hK h2, hz, h1, Result.andThen]
  · simp [Instr.lookup, run_underlying hT, MapKept.run_getObj_map hb, run_checkKey hK hik, run_findKey hK h2, h1, Result.andThen]

def upd (f : Int → Option Int) (k : Int) (v : Option Int) : Int → Option Int := fun x => if x = k then v else f x

theorem MP.turn {es : Array MapEntry} {clock : Nat} {k _v u : Int} {j : Nat} {e : MapEntry} (hb : w.heap[b]? = some (.map es clock)) (hs : Stamped es clock) (hk : ∀ x ∈ es.toList, ∃ a v : Int, x.key = .int .i64 a ∧ x.val = .int .i64 v)
    (hf : ∀ a v : Int, f a = some v ↔ ∃ x ∈ es.toList, x.key = .int .i64 a ∧ x.val = .int .i64 v) (hj : es.toList[j]? = some e) (he : e.key = .int .i64 k) (g : MapEntry → MapEntry) (hg : (g e).key = .int .i64 k ∧ (g e).val = .int .i64 u ∧ (g e).born = e.born)
    (_hg2 : ∀ e', es[j]? = some e' → (g e').born = e'.born) (_hg3 : ∀ e', es[j]? = some e' → (g e').key = e'.key) :
    MP (putObj w b (.map (es.modify j g) clock)) b (upd f k (some u)) := by
  refine ⟨es.modify j g, clock, by simp [putObj, lt_of_block hb], ?_, ?_, ?_⟩
  · have hes : es[j]? = some e := by rw [← Array.getElem?_toList]; exact hj
    obtain ⟨s1, s2, s3⟩ := hs
    have hborn : (es.modify j g).toList.map (·.born) = es.toList.map (·.born) := by
      apply List.ext_getElem?
      intro i
      rw [List.getElem?_map, List.getElem?_map, Array.getElem?_toList, Array.getElem?_toList, Array.getElem?_modify]
      by_cases hij : j = i
      · subst hij
        rw [if_pos rfl, hes]
        simp [hg.2.2]
      · rw [if_neg hij]
    have hkey : (es.modify j g).toList.map (·.key) = es.toList.map (·.key) := by
      apply List.ext_getElem?
      intro i
      rw [List.getElem?_map, List.getElem?_map, Array.getElem?_toList, Array.getElem?_toList, Array.getElem?_modify]
      by_cases hij : j = i
      · subst hij
        rw [if_pos rfl, hes]
        simp [hg.1, he]
      · rw [if_neg hij]
    refine ⟨?_, by rw [hborn]; exact s2, by rw [hkey]; exact s3⟩
    intro x hx
    have : x.born ∈ (es.modify j g).toList.map (·.born) := List.mem_map.2 ⟨x, hx, rfl⟩
    rw [hborn] at this
    obtain ⟨y, hy, hyb⟩ := List.mem_map.1 this
    rw [← hyb]
    exact s1 y hy
  · intro x hx
    rcases (mem_modify hs.2.2 hj g x).1 hx with rfl | ⟨h1, _⟩
    · exact ⟨k, u, hg.1, hg.2.1⟩
    · exact hk x h1
  · intro a v'
    unfold upd
    by_cases ha : a = k
    · subst ha
      rw [if_pos rfl]
      constructor
      · intro h
        cases h
        exact ⟨g e, (mem_modify hs.2.2 hj g _).2 (.inl rfl), hg.1, hg.2.1⟩
      · rintro ⟨x, hx, h1, h2⟩
        rcases (mem_modify hs.2.2 hj g x).1 hx with rfl | ⟨_, h3⟩
        · rw [hg.2.1] at h2
          cases h2
          rfl
        · rw [he] at h3
          exact absurd h1 h3
    · rw [if_neg ha, hf]
      constructor
      · rintro ⟨x, hx, h1, h2⟩
        exact ⟨x, (mem_modify hs.2.2 hj g x).2 (.inr ⟨hx, by rw [h1, he]; simpa using ha⟩), h1, h2⟩
      · rintro ⟨x, hx, h1, h2⟩
        rcases (mem_modify hs.2.2 hj g x).1 hx with rfl | ⟨h3, _⟩
        · rw [hg.1] at h1
          cases h1
          exact absurd rfl ha
        · exact ⟨x, h3, h1, h2⟩

theorem MP.update (h : MP w b f) (hT : P.underlying T = some (.map K E)) (hK : P.underlying K = some (.int .i64)) (k u : Int) :
    ∃ o, (Instr.mapUpdate T (.map (some b)) (.int .i64 k) (.int .i64 u)).run P w = .ok () (putObj w b o) ∧ MP (putObj w b o) b (upd f k (some u)) := by
  obtain ⟨es, clock, hb, hs, hk, hf, hc⟩ := h.find k
  have hik : IsKey (.int .i64) (.int .i64 k) := by simp [IsKey]
  rcases hc with ⟨h1, h2, h3⟩ | ⟨v, j, e, h1, h2, hj, he, hv⟩
  · refine ⟨.map (es.push { key := .int .i64 k, val := .int .i64 u, born := clock }) (clock + 1), ?_, ?_⟩
    · simp [Instr.mapUpdate, run_underlying hT, MapKept.run_getObj_map hb, run_checkKey hK hik, run_findKey hK h2, MapKept.run_setObj_map _ hb, Result.andThen, putObj]
    · refine ⟨es.push { key := .int .i64 k, val := .int .i64 u, born := clock }, clock + 1, by simp [putObj, lt_of_block hb], ?_, ?_, ?_⟩
      · obtain ⟨s1, s2, s3⟩ := hs
        refine ⟨?_, ?_, ?_⟩
        · intro x hx
          simp only [Array.toList_push, List.mem_append, List.mem_singleton] at hx
          rcases hx with hx | rfl
          · have := s1 x hx; omega
          · simp
        · simp only [Array.toList_push, List.map_append, List.map_cons, List.map_nil]
          rw [List.nodup_append]
          refine ⟨s2, by simp, ?_⟩
          intro a ha c hc
          simp only [List.mem_singleton] at hc
          subst hc
          obtain ⟨x, hx, rfl⟩ := List.mem_map.1 ha
          have := s1 x hx
          omega
        · simp only [Array.toList_push, List.map_append, List.map_cons, List.map_nil]
          rw [List.nodup_append]
          refine ⟨s3, by simp, ?_⟩
          intro a ha c hc
          simp only [List.mem_singleton] at hc
          subst hc
          obtain ⟨x, hx, rfl⟩ := List.mem_map.1 ha
          exact h3 x hx
      · intro x hx
        simp only [Array.toList_push, List.mem_append, List.mem_singleton] at hx
        rcases hx with hx | rfl
        · exact hk x hx
        · exact ⟨k, u, rfl, rfl⟩
      · intro a v'
        unfold upd
        simp only [Array.toList_push, List.mem_append, List.mem_singleton]
        by_cases ha : a = k
        · subst ha
          rw [if_pos rfl]
          constructor
          · intro h
            cases h
            exact ⟨_, .inr rfl, rfl, rfl⟩
          · rintro ⟨x, hx | rfl, h4, h5⟩
            · exact absurd h4 (h3 x hx)
            · cases h5; rfl
        · rw [if_neg ha, hf]
          constructor
          · rintro ⟨x, hx, h4, h5⟩
            exact ⟨x, .inl hx, h4, h5⟩
          · rintro ⟨x, hx | rfl, h4, h5⟩
            · exact ⟨x, hx, h4, h5⟩
            · cases h4; exact absurd rfl ha
  · have hes : es[j]? = some e := by rw [← Array.getElem?_toList]; exact hj
    refine ⟨.map (es.modify j fun x => { x with key := .int .i64 k, val := .int .i64 u }) clock, ?_, ?_⟩
    · simp [Instr.mapUpdate, run_underlying hT, MapKept.run_getObj_map hb, run_checkKey hK hik, run_findKey hK h2, hes, he, run_keyThatStays hik, MapKept.run_setObj_map _ hb, Result.andThen, putObj]
    · exact MP.turn (_v := v) hb hs hk hf hj he _ ⟨rfl, rfl, rfl⟩ (fun _ _ => rfl) (fun e' h' => by rw [hes] at h'; cases h'; exact he.symm)

theorem MP.entry (h : MP w b f) (hT : P.underlying T = some (.map K E)) (hK : P.underlying K = some (.int .i64)) (k u v : Int) (hv : f k = some v) :
    ∃ (st : Nat) (o : Obj), (Instr.mapEntry T (.map (some b)) (.int .i64 k)).run P w = .ok (.tuple #[.int .i64 v, .int .i64 (st : Int)]) w ∧
      (Instr.entryStore T (.map (some b)) (.int .i64 (st : Int)) (.int .i64 u)).run P w = .ok () (putObj w b o) ∧ MP (putObj w b o) b (upd f k (some u)) := by
  obtain ⟨es, clock, hb, hs, hk, hf, hc⟩ := h.find k
  have hik : IsKey (.int .i64) (.int .i64 k) := by simp [IsKey]
  rcases hc with ⟨h1, _, _⟩ | ⟨v', j, e, h1, h2, hj, he, hv'⟩
  · rw [h1] at hv; cases hv
  · rw [h1] at hv
    cases hv
    have hes : es[j]? = some e := by rw [← Array.getElem?_toList]; exact hj
    have hjl : j < es.size := (Array.getElem?_eq_some_iff.1 hes).1
    have hsame : es.modify j (fun x => { x with key := .int .i64 k }) = es := by
      apply Array.ext_getElem?
      intro i
      rw [Array.getElem?_modify]
      by_cases hij : j = i
      · subst hij
        rw [if_pos rfl, hes]
        simp only [Option.map_some]
        rw [← he]
      · rw [if_neg hij]
    have hw : ({ w with heap := w.heap.setIfInBounds b (.map es clock) } : World) = w := by
      have : w.heap.setIfInBounds b (.map es clock) = w.heap := by
        apply Array.ext_getElem?
        intro i
        rw [Array.getElem?_setIfInBounds]
        split
        · rename_i hi
          subst hi
          rw [if_pos (lt_of_block hb), hb]
        · rfl
      rw [this]
    have hfi : es.findIdx? (fun x => (x.born : Int) == (e.born : Int)) = some j := by
      rw [Array.findIdx?_eq_some_iff_getElem]
      refine ⟨hjl, ?_, ?_⟩
      · rw [(Array.getElem?_eq_some_iff.1 hes).2]; simp
      · intro i hi
        have hin : ¬ (es[i].born = e.born) := by
          intro hbe
          have hn := hs.2.1
          have h5 : (es.toList.map (·.born))[i]'(by simp; omega) = (es.toList.map (·.born))[j]'(by simpa using hjl) := by
            simp only [List.getElem_map, Array.getElem_toList]
            rw [hbe, (Array.getElem?_eq_some_iff.1 hes).2]
          have := nodup_inj hn _ _ h5
          omega
        simp only [beq_iff_eq, Int.natCast_inj]
        exact hin
    refine ⟨e.born, .map (es.modify j fun x => { x with val := .int .i64 u }) clock, ?_, ?_, ?_⟩
    · simp [Instr.mapEntry, run_underlying hT, MapKept.run_getObj_map hb, run_checkKey hK hik, run_findKey hK h2, hes, he, run_keyThatStays hik, MapKept.run_setObj_map _ hb, Result.andThen, hsame, hw, goInt]
    · simp [Instr.entryStore, MapKept.run_getObj_map hb, MapKept.run_setObj_map _ hb, Result.andThen, hfi, putObj, asInt, asIntOf]
    · exact MP.turn (_v := v) hb hs hk hf hj he _ ⟨he, rfl, rfl⟩ (fun _ _ => rfl) (fun e' h' => rfl)

theorem MP.delete (h : MP w b f) (hT : P.underlying T = some (.map K E)) (hK : P.underlying K = some (.int .i64)) (k : Int) (ty : TypeId) (T2 : TypeId) :
    ∃ o, (Builtin.delete_ #[T, T2] ty #[.map (some b), .int .i64 k]).run P w = .ok (.tuple #[]) (putObj w b o) ∧ MP (putObj w b o) b (upd f k none) := by
  obtain ⟨es, clock, hb, hs, hk, hf, hc⟩ := h.find k
  have hik : IsKey (.int .i64) (.int .i64 k) := by simp [IsKey]
  rcases hc with ⟨h1, h2, h3⟩ | ⟨v, j, e, h1, h2, hj, he, hv⟩
  · refine ⟨.map es clock, ?_, ?_⟩
    · simp [Builtin.delete_, run_underlying hT, MapKept.run_getObj_map hb, run_checkKey hK hik, run_findKey hK h2, MapKept.run_setObj_map _ hb, Result.andThen, putObj]
    · refine ⟨es, clock, by simp [putObj, lt_of_block hb], hs, hk, ?_⟩
      intro a v'
      unfold upd
      by_cases ha : a = k
      · subst ha
        rw [if_pos rfl]
        constructor
        · intro h; cases h
        · rintro ⟨x, hx, h4, _⟩
          exact absurd h4 (h3 x hx)
      · rw [if_neg ha]; exact hf a v'
  · refine ⟨.map (es.eraseIdxIfInBounds j) clock, ?_, ?_⟩
    · simp [Builtin.delete_, run_underlying hT, MapKept.run_getObj_map hb, run_checkKey hK hik, run_findKey hK h2, MapKept.run_setObj_map _ hb, Result.andThen, putObj]
    · refine ⟨es.eraseIdxIfInBounds j, clock, by simp [putObj, lt_of_block hb], stamped_erase hs j, ?_, ?_⟩
      · intro x hx
        exact hk x ((mem_erase hs.2.2 hj x).1 hx).1
      · intro a v'
        unfold upd
        by_cases ha : a = k
        · subst ha
          rw [if_pos rfl]
          constructor
          · intro h; cases h
          · rintro ⟨x, hx, h4, _⟩
            have := ((mem_erase hs.2.2 hj x).1 hx).2
            rw [he] at this
            exact absurd h4 this
        · rw [if_neg ha, hf]
          constructor
          · rintro ⟨x, hx, h4, h5⟩
            exact ⟨x, (mem_erase hs.2.2 hj x).2 ⟨hx, by rw [h4, he]; simpa using ha⟩, h4, h5⟩
          · rintro ⟨x, hx, h4, h5⟩
            exact ⟨x, ((mem_erase hs.2.2 hj x).1 hx).1, h4, h5⟩
end
end Go.Proofs.Ytgihncjllelonaa.Mem
