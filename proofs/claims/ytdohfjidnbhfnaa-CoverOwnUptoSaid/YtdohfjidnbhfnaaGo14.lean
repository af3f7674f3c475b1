/- A map from int to int in a block of its own, told by what it holds. -/
import Derived.Test.YtdohfjidnbhfnaaGo1
import Derived.MapKept
namespace Go.Proofs.Ytdohfjidnbhfnaa.Mem
set_option linter.unusedSimpArgs false
set_option linter.unusedVariables false
open Go Go.RowKit Go.MapKept

theorem nodup_inj {α : Type} {l : List α} (h : l.Nodup) {i j : Nat} (hi : i < l.length) (hj : j < l.length) (he : l[i] = l[j]) : i = j := by
  rcases Nat.lt_trichotomy i j with h1 | h1 | h1
  · exact absurd he (List.pairwise_iff_getElem.1 h i j hi hj h1)
  · exact h1
  · exact absurd he.symm (List.pairwise_iff_getElem.1 h j i hj hi h1)

def MP (w : World) (b : Nat) (f : Int → Option Int) : Prop :=
  ∃ es clock, w.heap[b]? = some (.map es clock) ∧ Stamped es clock ∧ (∀ x ∈ es.toList, ∃ a v : Int, x.key = .int .i64 a ∧ x.val = .int .i64 v) ∧
    ∀ a v : Int, f a = some v ↔ ∃ x ∈ es.toList, x.key = .int .i64 a ∧ x.val = .int .i64 v

def putObj (w : World) (b : Nat) (o : Obj) : World := { w with heap := w.heap.setIfInBounds b o }
theorem putObj_far {w : World} {b : Nat} {o : Obj} {g : Nat} (h : g ≠ b) : (putObj w b o).heap[g]? = w.heap[g]? := by simp [putObj, Ne.symm h]
theorem At.putObj {w : World} {g : Nat} {cs : List Value} {T : TypeId} (h : At w g cs T) {b : Nat} {o : Obj} (hne : g ≠ b) : At (putObj w b o) g cs T := (putObj_far hne).trans h
theorem putObj_size (w : World) (b : Nat) (o : Obj) : (putObj w b o).heap.size = w.heap.size := by simp [putObj]
theorem own_putObj {w : World} {base b : Nat} {e : TypeId} {size n : Nat} {v : Value} {xs : List Value} (h : w.ownsRow base e size v n xs) {o : Obj} (hb : b < base) : (putObj w b o).ownsRow base e size v n xs := by
  refine ⟨h.1, ?_⟩
  rcases h.2 with h0 | ⟨g, cap, cur, rfl, hg, hh, r⟩
  · exact .inl h0
  · exact .inr ⟨g, cap, cur, rfl, hg, (putObj_far (by omega)).trans hh, r⟩

section
variable {w w' : World} {b : Nat} {f : Int → Option Int}
theorem MP.lt (h : MP w b f) : b < w.heap.size := by
  obtain ⟨es, clock, hb, _⟩ := h
  exact lt_of_block hb
theorem MP.move (h : MP w b f) (he : w'.heap[b]? = w.heap[b]?) : MP w' b f := by
  obtain ⟨es, clock, hb, r⟩ := h
  exact ⟨es, clock, he.trans hb, r⟩
theorem MP.drew (h : MP w b f) : MP w.drew b f := h
theorem MP.drewN (h : MP w b f) (n : Nat) : MP (w.drewN n) b f := h
theorem MP.al (h : MP w b f) {o : Obj} : MP (w.alloc o) b f := h.move (Below.heap_alloc w o b h.lt)
theorem MP.ne (h : MP w b f) {g : Nat} {cs : List Value} {T : TypeId} (hg : At w g cs T) : g ≠ b := by
  rintro rfl
  obtain ⟨es, clock, hb, _⟩ := h
  have := hg.symm.trans hb
  simp at this
theorem MP.off (h : MP w b f) {g i : Nat} {u : Value} (hg : g ≠ b) : MP (w.setCell ⟨g, i, none⟩ u) b f := h.move (heap_setCell_other w ⟨g, i, none⟩ b u hg.symm)
theorem MP.grown (h : MP w b f) {row : Option Nat} (hg : w.grownBy w' row) (hne : some b ≠ row) : MP w' b f := h.move (hg.block b h.lt hne)
theorem MP.below (h : MP w b f) {B : Nat} (hb : Below B w w') (hB : b < B) : MP w' b f := h.move (hb.block b hB)
theorem MP.own (h : MP w b f) {base : Nat} {e : TypeId} {size n : Nat} {v : Value} {xs : List Value} (ho : w.ownsRow base e size v n xs) : some b ≠ v.ownBlock := by
  intro he
  rcases ho.2 with ⟨rfl, _⟩ | ⟨g, cap, cur, rfl, _, hh, _⟩
  · simp [Value.ownBlock] at he
  · have : b = g := by simpa [Value.ownBlock] using he
    subst this
    obtain ⟨es, clock, hb, _⟩ := h
    have := hb.symm.trans hh
    simp at this
theorem MP.new (w : World) : MP (w.alloc (.map #[] 0)) w.heap.size fun _ => none :=
  ⟨#[], 0, heap_alloc_new w _, ⟨by simp, by simp, by simp⟩, by simp, by simp⟩

variable {P : Program} {T K E : TypeId}

theorem keys_of {es : Array MapEntry} (h : ∀ x ∈ es.toList, ∃ a v : Int, x.key = .int .i64 a ∧ x.val = .int .i64 v) : ∀ x ∈ es.toList, IsKey (.int .i64) x.key := fun x hx => by
  obtain ⟨a, v, h1, _⟩ := h x hx
  rw [h1]
  simp [IsKey]

theorem mem_modify {es : Array MapEntry} (hn : (es.toList.map (·.key)).Nodup) {j : Nat} {e : MapEntry} (he : es.toList[j]? = some e) (g : MapEntry → MapEntry) (x : MapEntry) :
    x ∈ (es.modify j g).toList ↔ x = g e ∨ (x ∈ es.toList ∧ x.key ≠ e.key) := by
  have hj : j < es.toList.length := (List.getElem?_eq_some_iff.1 he).1
  have hidx : ∀ i y, es.toList[i]? = some y → y.key = e.key → i = j := by
    intro i y hy hk
    have hi : i < es.toList.length := (List.getElem?_eq_some_iff.1 hy).1
    have h1 : (es.toList.map (·.key))[i]'(by simpa using hi) = (es.toList.map (·.key))[j]'(by simpa using hj) := by
      rw [List.getElem_map, List.getElem_map, (List.getElem?_eq_some_iff.1 hy).2, (List.getElem?_eq_some_iff.1 he).2, hk]
    exact nodup_inj hn _ _ h1
  rw [List.mem_iff_getElem?]
  constructor
  · rintro ⟨i, hi⟩
    rw [Array.getElem?_toList, Array.getElem?_modify] at hi
    by_cases hij : j = i
    · subst hij
      rw [if_pos rfl, ← Array.getElem?_toList, he] at hi
      left
      simpa using hi.symm
    · rw [if_neg hij, ← Array.getElem?_toList] at hi
      right
      exact ⟨List.mem_of_getElem? hi, fun hk => hij (hidx i x hi hk).symm⟩
  · rintro (rfl | ⟨hx, hk⟩)
    · refine ⟨j, ?_⟩
      rw [Array.getElem?_toList, Array.getElem?_modify, if_pos rfl, ← Array.getElem?_toList, he]
      rfl
    · obtain ⟨i, hi⟩ := List.mem_iff_getElem?.1 hx
      refine ⟨i, ?_⟩
      have hij : j ≠ i := by
        rintro rfl
        rw [he] at hi
        cases hi
        exact hk rfl
      rw [Array.getElem?_toList, Array.getElem?_modify, if_neg hij, ← Array.getElem?_toList, hi]

theorem mem_erase {es : Array MapEntry} (hn : (es.toList.map (·.key)).Nodup) {j : Nat} {e : MapEntry} (he : es.toList[j]? = some e) (x : MapEntry) :
    x ∈ (es.eraseIdxIfInBounds j).toList ↔ (x ∈ es.toList ∧ x.key ≠ e.key) := by
  have hj : j < es.toList.length := (List.getElem?_eq_some_iff.1 he).1
  have hidx : ∀ i y, es.toList[i]? = some y → y.key = e.key → i = j := by
    intro i y hy hk
    have hi : i < es.toList.length := (List.getElem?_eq_some_iff.1 hy).1
    have h1 : (es.toList.map (·.key))[i]'(by simpa using hi) = (es.toList.map (·.key))[j]'(by simpa using hj) := by
      rw [List.getElem_map, List.getElem_map, (List.getElem?_eq_some_iff.1 hy).2, (List.getElem?_eq_some_iff.1 he).2, hk]
    exact nodup_inj hn _ _ h1
  have hj' : j < es.size := by simpa using hj
  have h0 : (es.eraseIdxIfInBounds j).toList = es.toList.eraseIdx j := by
    unfold Array.eraseIdxIfInBounds
    rw [dif_pos hj', Array.toList_eraseIdx]
  rw [h0, List.mem_eraseIdx_iff_getElem?]
  constructor
  · rintro ⟨i, hij, hi⟩
    exact ⟨List.mem_of_getElem? hi, fun hk => hij (hidx i x hi hk)⟩
  · rintro ⟨hx, hk⟩
    obtain ⟨i, hi⟩ := List.mem_iff_getElem?.1 hx
    refine ⟨i, ?_, hi⟩
    rintro rfl
    rw [he] at hi
    cases hi
    exact hk rfl

theorem MP.find (h : MP w b f) (k : Int) : ∃ es clock, w.heap[b]? = some (.map es clock) ∧ Stamped es clock ∧ (∀ x ∈ es.toList, ∃ a v : Int, x.key = .int .i64 a ∧ x.val = .int .i64 v) ∧
    (∀ a v : Int, f a = some v ↔ ∃ x ∈ es.toList, x.key = .int .i64 a ∧ x.val = .int .i64 v) ∧
    ((f k = none ∧ Instr.findNow (.int .i64) (.int .i64 k) es.toList 0 = some none ∧ ∀ x ∈ es.toList, x.key ≠ .int .i64 k) ∨
     ∃ (v : Int) (j : Nat) (e : MapEntry), f k = some v ∧ Instr.findNow (.int .i64) (.int .i64 k) es.toList 0 = some (some (j, .int .i64 v)) ∧ es.toList[j]? = some e ∧ e.key = .int .i64 k ∧ e.val = .int .i64 v) := by
  obtain ⟨es, clock, hb, hs, hk, hf⟩ := h
  refine ⟨es, clock, hb, hs, hk, hf, ?_⟩
  rcases findNow_spec (d := .int .i64) (k := .int .i64 k) (by simp [IsKey]) es.toList 0 (keys_of hk) with ⟨h1, h2⟩ | ⟨j, e, h1, h2, h3⟩
  · left
    refine ⟨?_, h1, h2⟩
    cases hfk : f k with
    | none => rfl
    | some v =>
      obtain ⟨x, hx, h4, _⟩ := (hf k v).1 hfk
      exact absurd h4 (h2 x hx)
  · right
    obtain ⟨a, v, h4, h5⟩ := hk e (List.mem_of_getElem? h2)
    rw [h3] at h4
    cases h4
    refine ⟨v, j, e, (hf k v).2 ⟨e, List.mem_of_getElem? h2, h3, h5⟩, ?_, h2, h3, h5⟩
    rw [h1, Nat.zero_add, h5]

theorem MP.lookup_ok (h : MP w b f) (hT : P.underlying T = some (.map K E)) (hK : P.underlying K = some (.int .i64)) (hz : ∀ w, (zeroValue E).run P w = .ok (.int .i64 0) w) (k : Int) :
    (Instr.lookup T (.map (some b)) (.int .i64 k) true).run P w = .ok (.tuple #[.int .i64 ((f k).getD 0), .bool (f k).isSome]) w := by
  obtain ⟨es, clock, hb, hs, hk, hf, hc⟩ := h.find k
  have hik : IsKey (.int .i64) (.int .i64 k) := by simp [IsKey]
  rcases hc with ⟨h1, h2, _⟩ | ⟨v, j, e, h1, h2, _⟩
  · simp [Instr.lookup, run_underlying hT, MapKept.run_getObj_map hb, run_checkKey hK hik, run_findKey hK h2, hz, h1, Result.andThen]
  · simp [Instr.lookup, run_underlying hT, MapKept.run_getObj_map hb, run_checkKey hK hik, run_findKey hK h2, h1, Result.andThen]

def upd (f : Int → Option Int) (k : Int) (v : Option Int) : Int → Option Int := fun x => if x = k then v else f x

theorem MP.turn {es : Array MapEntry} {clock : Nat} {k _v u : Int} {j : Nat} {e : MapEntry} (hb : w.heap[b]? = some (.map es clock)) (hs : Stamped es clock) (hk : ∀ x ∈ es.toList, ∃ a v : Int, x.key = .int .i64 a ∧ x.val = .int .i64 v)
    (hf : ∀ a v : Int, f a = some v ↔ ∃ x ∈ es.toList, x.key = .int .i64 a ∧ x.val = .int .i64 v) (hj : es.toList[j]? = some e) (he : e.key = .int .i64 k) (g : MapEntry → MapEntry) (hg : (g e).key = .int .i64 k ∧ (g e).val = .int .i64 u ∧ (g e).born = e.born)
    (_hg2 : ∀ e', es[j]? = some e' → (g e').born = e'.born) (_hg3 : ∀ e', es[j]? = some e' → (g e').key = e'.key) :
    MP (putObj w b (.map (es.modify j g) clock)) b (upd f k (some u)) := by
  refine ⟨es.modify j g, clock, by simp [putObj, lt_of_block hb], ?_, ?_, ?_⟩
  · have hes : es[j]? = some e := by rw [← Array.getElem?_toList]; exact hj
    obtain ⟨s1, s2, s3⟩ := hs
    have hborn : (es.modify j g).toList.map (·.born) = es.toList.map (·.born) := by
      apply List.ext_getElem?
      intro i
      rw [List.getElem?_map, List.getElem?_map, Array.getElem?_toList, Array.getElem?_toList, Array.getElem?_modify]
      by_cases hij : j = i
      · subst hij
        rw [if_pos rfl, hes]
        simp [hg.2.2]
      · rw [if_neg hij]
    have hkey : (es.modify j g).toList.map (·.key) = es.toList.map (·.key) := by
      apply List.ext_getElem?
      intro i
      rw [List.getElem?_map, List.getElem?_map, Array.getElem?_toList, Array.getElem?_toList, Array.getElem?_modify]
      by_cases hij : j = i
      · subst hij
        rw [if_pos rfl, hes]
        simp [hg.1, he]
      · rw [if_neg hij]
    refine ⟨?_, by rw [hborn]; exact s2, by rw [hkey]; exact s3⟩
    intro x hx
    have : x.born ∈ (es.modify j g).toList.map (·.born) := List.mem_map.2 ⟨x, hx, rfl⟩
    rw [hborn] at this
    obtain ⟨y, hy, hyb⟩ := List.mem_map.1 this
    rw [← hyb]
    exact s1 y hy
  · intro x hx
    rcases (mem_modify hs.2.2 hj g x).1 hx with rfl | ⟨h1, _⟩
    · exact ⟨k, u, hg.1, hg.2.1⟩
    · exact hk x h1
  · intro a v'
    unfold upd
    by_cases ha : a = k
    · subst ha
      rw [if_pos rfl]
      constructor
      · intro h
        cases h
        exact ⟨g e, (mem_modify hs.2.2 hj g _).2 (.inl rfl), hg.1, hg.2.1⟩
      · rintro ⟨x, hx, h1, h2⟩
        rcases (mem_modify hs.2.2 hj g x).1 hx with rfl | ⟨_, h3⟩
        · rw [hg.2.1] at h2
          cases h2
          rfl
        · rw [he] at h3
          exact absurd h1 h3
    · rw [if_neg ha, hf]
      constructor
      · rintro ⟨x, hx, h1, h2⟩
        exact ⟨x, (mem_modify hs.2.2 hj g x).2 (.inr ⟨hx, by rw [h1, he]; simpa using ha⟩), h1, h2⟩
      · rintro ⟨x, hx, h1, h2⟩
        rcases (mem_modify hs.2.2 hj g x).1 hx with rfl | ⟨h3, _⟩
        · rw [hg.1] at h1
          cases h1
          exact absurd rfl ha
        · exact ⟨x, h3, h1, h2⟩

theorem MP.update (h : MP w b f) (hT : P.underlying T = some (.map K E)) (hK : P.underlying K = some (.int .i64)) (k u : Int) :
    ∃ o, (Instr.mapUpdate T (.map (some b)) (.int .i64 k) (.int .i64 u)).run P w = .ok () (putObj w b o) ∧ MP (putObj w b o) b (upd f k (some u)) := by
  obtain ⟨es, clock, hb, hs, hk, hf, hc⟩ := h.find k
  have hik : IsKey (.int .i64) (.int .i64 k) := by simp [IsKey]
  rcases hc with ⟨h1, h2, h3⟩ | ⟨v, j, e, h1, h2, hj, he, hv⟩
  · refine ⟨.map (es.push { key := .int .i64 k, val := .int .i64 u, born := clock }) (clock + 1), ?_, ?_⟩
    · simp [Instr.mapUpdate, run_underlying hT, MapKept.run_getObj_map hb, run_checkKey hK hik, run_findKey hK h2, MapKept.run_setObj_map _ hb, Result.andThen, putObj]
    · refine ⟨es.push { key := .int .i64 k, val := .int .i64 u, born := clock }, clock + 1, by simp [putObj, lt_of_block hb], ?_, ?_, ?_⟩
      · obtain ⟨s1, s2, s3⟩ := hs
        refine ⟨?_, ?_, ?_⟩
        · intro x hx
          simp only [Array.toList_push, List.mem_append, List.mem_singleton] at hx
          rcases hx with hx | rfl
          · have := s1 x hx; omega
          · simp
        · simp only [Array.toList_push, List.map_append, List.map_cons, List.map_nil]
          rw [List.nodup_append]
          refine ⟨s2, by simp, ?_⟩
          intro a ha c hc
          simp only [List.mem_singleton] at hc
          subst hc
          obtain ⟨x, hx, rfl⟩ := List.mem_map.1 ha
          have := s1 x hx
          omega
        · simp only [Array.toList_push, List.map_append, List.map_cons, List.map_nil]
          rw [List.nodup_append]
          refine ⟨s3, by simp, ?_⟩
          intro a ha c hc
          simp only [List.mem_singleton] at hc
          subst hc
          obtain ⟨x, hx, rfl⟩ := List.mem_map.1 ha
          exact h3 x hx
      · intro x hx
        simp only [Array.toList_push, List.mem_append, List.mem_singleton] at hx
        rcases hx with hx | rfl
        · exact hk x hx
        · exact ⟨k, u, rfl, rfl⟩
      · intro a v'
        unfold upd
        simp only [Array.toList_push, List.mem_append, List.mem_singleton]
        by_cases ha : a = k
        · subst ha
          rw [if_pos rfl]
          constructor
          · intro h
            cases h
            exact ⟨_, .inr rfl, rfl, rfl⟩
          · rintro ⟨x, hx | rfl, h4, h5⟩
            · exact absurd h4 (h3 x hx)
            · cases h5; rfl
        · rw [if_neg ha, hf]
          constructor
          · rintro ⟨x, hx, h4, h5⟩
            exact ⟨x, .inl hx, h4, h5⟩
          · rintro ⟨x, hx | rfl, h4, h5⟩
            · exact ⟨x, hx, h4, h5⟩
            · cases h4; exact absurd rfl ha
  · have hes : es[j]? = some e := by rw [← Array.getElem?_toList]; exact hj
    refine ⟨.map (es.modify j fun x => { x with key := .int .i64 k, val := .int .i64 u }) clock, ?_, ?_⟩
    · simp [Instr.mapUpdate, run_underlying hT, MapKept.run_getObj_map hb, run_checkKey hK hik, run_findKey hK h2, hes, he, run_keyThatStays hik, MapKept.run_setObj_map _ hb, Result.andThen, putObj]
    · exact MP.turn (_v := v) hb hs hk hf hj he _ ⟨rfl, rfl, rfl⟩ (fun _ _ => rfl) (fun e' h' => by rw [hes] at h'; cases h'; exact he.symm)

theorem MP.entry (h : MP w b f) (hT : P.underlying T = some (.map K E)) (hK : P.underlying K = some (.int .i64)) (k u v : Int) (hv : f k = some v) :
    ∃ (st : Nat) (o : Obj), (Instr.mapEntry T (.map (some b)) (.int .i64 k)).run P w = .ok (.tuple #[.int .i64 v, .int .i64 (st : Int)]) w ∧
      (Instr.entryStore T (.map (some b)) (.int .i64 (st : Int)) (.int .i64 u)).run P w = .ok () (putObj w b o) ∧ MP (putObj w b o) b (upd f k (some u)) := by
  obtain ⟨es, clock, hb, hs, hk, hf, hc⟩ := h.find k
  have hik : IsKey (.int .i64) (.int .i64 k) := by simp [IsKey]
  rcases hc with ⟨h1, _, _⟩ | ⟨v', j, e, h1, h2, hj, he, hv'⟩
  · rw [h1] at hv; cases hv
  · rw [h1] at hv
    cases hv
    have hes : es[j]? = some e := by rw [← Array.getElem?_toList]; exact hj
    have hjl : j < es.size := (Array.getElem?_eq_some_iff.1 hes).1
    have hsame : es.modify j (fun x => { x with key := .int .i64 k }) = es := by
      apply Array.ext_getElem?
      intro i
      rw [Array.getElem?_modify]
      by_cases hij : j = i
      · subst hij
        rw [if_pos rfl, hes]
        simp only [Option.map_some]
        rw [← he]
      · rw [if_neg hij]
    have hw : ({ w with heap := w.heap.setIfInBounds b (.map es clock) } : World) = w := by
      have : w.heap.setIfInBounds b (.map es clock) = w.heap := by
        apply Array.ext_getElem?
        intro i
        rw [Array.getElem?_setIfInBounds]
        split
        · rename_i hi
          subst hi
          rw [if_pos (lt_of_block hb), hb]
        · rfl
      rw [this]
    have hfi : es.findIdx? (fun x => (x.born : Int) == (e.born : Int)) = some j := by
      rw [Array.findIdx?_eq_some_iff_getElem]
      refine ⟨hjl, ?_, ?_⟩
      · rw [(Array.getElem?_eq_some_iff.1 hes).2]; simp
      · intro i hi
        have hin : ¬ (es[i].born = e.born) := by
          intro hbe
          have hn := hs.2.1
          have h5 : (es.toList.map (·.born))[i]'(by simp; omega) = (es.toList.map (·.born))[j]'(by simpa using hjl) := by
            simp only [List.getElem_map, Array.getElem_toList]
            rw [hbe, (Array.getElem?_eq_some_iff.1 hes).2]
          have := nodup_inj hn _ _ h5
          omega
        simp only [beq_iff_eq, Int.natCast_inj]
        exact hin
    refine ⟨e.born, .map (es.modify j fun x => { x with val := .int .i64 u }) clock, ?_, ?_, ?_⟩
    · simp [Instr.mapEntry, run_underlying hT, MapKept.run_getObj_map hb, run_checkKey hK hik, run_findKey hK h2, hes, he, run_keyThatStays hik, MapKept.run_setObj_map _ hb, Result.andThen, hsame, hw, goInt]
    · simp [Instr.entryStore, MapKept.run_getObj_map hb, MapKept.run_setObj_map _ hb, Result.andThen, hfi, putObj, asInt, asIntOf]
    · exact MP.turn (_v := v) hb hs hk hf hj he _ ⟨he, rfl, rfl⟩ (fun _ _ => rfl) (fun e' h' => rfl)

theorem MP.delete (h : MP w b f) (hT : P.underlying T = some (.map K E)) (hK : P.underlying K = some (.int .i64)) (k : Int) (ty : TypeId) (T2 : TypeId) :
    ∃ o, (Builtin.delete_ #[T, T2] ty #[.map (some b), .int .i64 k]).run P w = .ok (.tuple #[]) (putObj w b o) ∧ MP (putObj w b o) b (upd f k none) := by
  obtain ⟨es, clock, hb, hs, hk, hf, hc⟩ := h.find k
  have hik : IsKey (.int .i64) (.int .i64 k) := by simp [IsKey]
  rcases hc with ⟨h1, h2, h3⟩ | ⟨v, j, e, h1, h2, hj, he, hv⟩
  · refine ⟨.map es clock, ?_, ?_⟩
    · simp [Builtin.delete_, run_underlying hT, MapKept.run_getObj_map hb, run_checkKey hK hik, run_findKey hK h2, MapKept.run_setObj_map _ hb, Result.andThen, putObj]
    · refine ⟨es, clock, by simp [putObj, lt_of_block hb], hs, hk, ?_⟩
      intro a v'
      unfold upd
      by_cases ha : a = k
      · subst ha
        rw [if_pos rfl]
        constructor
        · intro h; cases h
        · rintro ⟨x, hx, h4, _⟩
          exact absurd h4 (h3 x hx)
      · rw [if_neg ha]; exact hf a v'
  · refine ⟨.map (es.eraseIdxIfInBounds j) clock, ?_, ?_⟩
    · simp [Builtin.delete_, run_underlying hT, MapKept.run_getObj_map hb, run_checkKey hK hik, run_findKey hK h2, MapKept.run_setObj_map _ hb, Result.andThen, putObj]
    · refine ⟨es.eraseIdxIfInBounds j, clock, by simp [putObj, lt_of_block hb], stamped_erase hs j, ?_, ?_⟩
      · intro x hx
        exact hk x ((mem_erase hs.2.2 hj x).1 hx).1
      · intro a v'
        unfold upd
        by_cases ha : a = k
        · subst ha
          rw [if_pos rfl]
          constructor
          · intro h; cases h
          · rintro ⟨x, hx, h4, _⟩
            have := ((mem_erase hs.2.2 hj x).1 hx).2
            rw [he] at this
            exact absurd h4 this
        · rw [if_neg ha, hf]
          constructor
          · rintro ⟨x, hx, h4, h5⟩
            exact ⟨x, (mem_erase hs.2.2 hj x).2 ⟨hx, by rw [h4, he]; simpa using ha⟩, h4, h5⟩
          · rintro ⟨x, hx, h4, h5⟩
            exact ⟨x, ((mem_erase hs.2.2 hj x).1 hx).1, h4, h5⟩
end
end Go.Proofs.Ytdohfjidnbhfnaa.Mem

/- The plain model of heap.Heap[int, int]: items (key, rank, came); the heap's order; its places. -/
namespace Go.Proofs.Ytdohfjidnbhfnaa.Hq
set_option linter.unusedSimpArgs false
set_option linter.unusedVariables false

abbrev Itm := Int × Int × Int

def aheadI (a b : Itm) : Bool := if a.2.1 < b.2.1 then true else if b.2.1 < a.2.1 then false else decide (a.2.2 < b.2.2)
def z : Itm := (0, 0, 0)
def swapL (its : List Itm) (i j : Nat) : List Itm := (its.set i (its.getD j z)).set j (its.getD i z)

def upS : Nat → List Itm → Nat → Option (List Itm)
  | 0, _, _ => none
  | k + 1, its, i =>
    if i < its.length then
      (if 0 < i then (if aheadI (its.getD i z) (its.getD ((i - 1) / 2) z) = true then upS k (swapL its i ((i - 1) / 2)) ((i - 1) / 2) else some its) else some its)
    else none

def leastS (its : List Itm) (i : Nat) : Nat :=
  let a := if 2 * i + 1 < its.length ∧ aheadI (its.getD (2 * i + 1) z) (its.getD i z) = true then 2 * i + 1 else i
  if 2 * i + 2 < its.length ∧ aheadI (its.getD (2 * i + 2) z) (its.getD a z) = true then 2 * i + 2 else a

def downS : Nat → List Itm → Nat → Option (List Itm)
  | 0, _, _ => none
  | k + 1, its, i =>
    if i < its.length ∧ its.length < 1000000 then
      (if leastS its i = i then some its else downS k (swapL its i (leastS its i)) (leastS its i))
    else none

theorem swapL_length (its : List Itm) (i j : Nat) : (swapL its i j).length = its.length := by simp [swapL]
theorem leastS_lt {its : List Itm} {i : Nat} (h : i < its.length) : leastS its i < its.length := by
  unfold leastS
  dsimp only
  have h1 : (if 2 * i + 1 < its.length ∧ aheadI (its.getD (2 * i + 1) z) (its.getD i z) = true then 2 * i + 1 else i) < its.length := by split <;> omega
  generalize (if 2 * i + 1 < its.length ∧ aheadI (its.getD (2 * i + 1) z) (its.getD i z) = true then 2 * i + 1 else i) = a at h1 ⊢
  split <;> omega
def Fits (f : Int → Option Int) (its : List Itm) : Prop := ∀ (k i : Int), f k = some i ↔ ∃ n : Nat, i = (n : Int) ∧ ∃ x, its[n]? = some x ∧ x.1 = k

theorem swapL_get (its : List Itm) {i j : Nat} (hi : i < its.length) (hj : j < its.length) (n : Nat) :
    (swapL its i j)[n]? = if n = j then its[i]? else if n = i then its[j]? else its[n]? := by
  unfold swapL
  rw [List.getElem?_set]
  by_cases h1 : j = n
  · subst h1
    rw [if_pos rfl, if_pos rfl, List.length_set, if_pos hj, List.getD_eq_getElem?_getD, List.getElem?_eq_getElem hi]
    rfl
  · rw [if_neg h1, if_neg (Ne.symm h1), List.getElem?_set]
    by_cases h2 : i = n
    · subst h2
      rw [if_pos rfl, if_pos rfl, if_pos hi, List.getD_eq_getElem?_getD, List.getElem?_eq_getElem hj]
      rfl
    · rw [if_neg h2, if_neg (Ne.symm h2)]

theorem Fits.swap {f : Int → Option Int} {its : List Itm} (h : Fits f its) {i j : Nat} {a b : Itm} (ha : its[i]? = some a) (hb : its[j]? = some b) :
    Fits (fun x => if x = a.1 then some (j : Int) else if x = b.1 then some (i : Int) else f x) (swapL its i j) := by
  have hi : i < its.length := (List.getElem?_eq_some_iff.1 ha).1
  have hj : j < its.length := (List.getElem?_eq_some_iff.1 hb).1
  have uniq : ∀ {n m : Nat} {x y : Itm}, its[n]? = some x → its[m]? = some y → x.1 = y.1 → n = m := by
    intro n m x y h1 h2 h3
    have e1 := (h x.1 n).2 ⟨n, rfl, x, h1, rfl⟩
    have e2 := (h x.1 m).2 ⟨m, rfl, y, h2, h3.symm⟩
    rw [e1] at e2
    have := Option.some.inj e2
    omega
  intro k m
  dsimp only
  by_cases h1 : k = a.1
  · rw [if_pos h1]
    constructor
    · intro he
      cases he
      exact ⟨j, rfl, a, by rw [swapL_get its hi hj, if_pos rfl, ha], h1.symm⟩
    · rintro ⟨n, rfl, x, hx, hk⟩
      rw [swapL_get its hi hj] at hx
      by_cases hn : n = j
      · rw [hn]
      · rw [if_neg hn] at hx
        by_cases hni : n = i
        · rw [if_pos hni] at hx
          have := uniq hx ha (by rw [hk, h1])
          omega
        · rw [if_neg hni] at hx
          exact absurd (uniq hx ha (by rw [hk, h1])) hni
  · rw [if_neg h1]
    by_cases h2 : k = b.1
    · rw [if_pos h2]
      constructor
      · intro he
        cases he
        refine ⟨i, rfl, b, ?_, h2.symm⟩
        rw [swapL_get its hi hj]
        by_cases hij : i = j
        · subst hij
          rw [if_pos rfl]; exact hb
        · rw [if_neg hij, if_pos rfl, hb]
      · rintro ⟨n, rfl, x, hx, hk⟩
        rw [swapL_get its hi hj] at hx
        by_cases hn : n = j
        · rw [if_pos hn, ha] at hx
          cases hx
          exact absurd hk.symm h1
        · rw [if_neg hn] at hx
          by_cases hni : n = i
          · rw [hni]
          · rw [if_neg hni] at hx
            exact absurd (uniq hx hb (by rw [hk, h2])) hn
    · rw [if_neg h2, h]
      constructor
      · rintro ⟨n, rfl, x, hx, hk⟩
        refine ⟨n, rfl, x, ?_, hk⟩
        rw [swapL_get its hi hj]
        by_cases hn : n = j
        · subst hn
          rw [hb] at hx
          cases hx
          exact absurd hk.symm h2
        · rw [if_neg hn]
          by_cases hni : n = i
          · subst hni
            rw [ha] at hx
            cases hx
            exact absurd hk.symm h1
          · rw [if_neg hni]; exact hx
      · rintro ⟨n, rfl, x, hx, hk⟩
        refine ⟨n, rfl, x, ?_, hk⟩
        rw [swapL_get its hi hj] at hx
        by_cases hn : n = j
        · rw [if_pos hn, ha] at hx
          cases hx
          exact absurd hk.symm h1
        · rw [if_neg hn] at hx
          by_cases hni : n = i
          · rw [if_pos hni, hb] at hx
            cases hx
            exact absurd hk.symm h2
          · rw [if_neg hni] at hx; exact hx

theorem Fits.nil : Fits (fun _ => none) [] := fun k i => ⟨fun h => (by cases h), fun ⟨n, _, x, h, _⟩ => by simp at h⟩

theorem Fits.push {f : Int → Option Int} {its : List Itm} (h : Fits f its) {x : Itm} (hn : f x.1 = none) : Fits (fun y => if y = x.1 then some (its.length : Int) else f y) (its ++ [x]) := by
  intro k i
  dsimp only
  by_cases hk : k = x.1
  · rw [if_pos hk]
    constructor
    · intro he
      cases he
      exact ⟨its.length, rfl, x, by simp, hk.symm⟩
    · rintro ⟨n, rfl, y, hy, he⟩
      rcases Nat.lt_or_ge n its.length with h1 | h1
      · rw [List.getElem?_append_left h1] at hy
        have := (h k n).2 ⟨n, rfl, y, hy, he⟩
        rw [hk, hn] at this
        cases this
      · rw [List.getElem?_append_right h1] at hy
        have : n - its.length = 0 := by
          rcases Nat.eq_zero_or_pos (n - its.length) with h2 | h2
          · exact h2
          · rw [List.getElem?_eq_none (by simp; omega)] at hy; cases hy
        rw [show n = its.length by omega]
  · rw [if_neg hk, h]
    constructor
    · rintro ⟨n, rfl, y, hy, he⟩
      exact ⟨n, rfl, y, by rw [List.getElem?_append_left (List.getElem?_eq_some_iff.1 hy).1]; exact hy, he⟩
    · rintro ⟨n, rfl, y, hy, he⟩
      rcases Nat.lt_or_ge n its.length with h1 | h1
      · rw [List.getElem?_append_left h1] at hy
        exact ⟨n, rfl, y, hy, he⟩
      · rw [List.getElem?_append_right h1] at hy
        have : n - its.length = 0 := by
          rcases Nat.eq_zero_or_pos (n - its.length) with h2 | h2
          · exact h2
          · rw [List.getElem?_eq_none (by simp; omega)] at hy; cases hy
        rw [this] at hy
        cases hy
        exact absurd he.symm hk

theorem Fits.pop {f : Int → Option Int} {its : List Itm} {x : Itm} (h : Fits f (its ++ [x])) : Fits (fun y => if y = x.1 then none else f y) its := by
  have hx := (h x.1 its.length).2 ⟨its.length, rfl, x, by simp, rfl⟩
  intro k i
  dsimp only
  by_cases hk : k = x.1
  · rw [if_pos hk]
    constructor
    · intro he; cases he
    · rintro ⟨n, rfl, y, hy, he⟩
      have h1 := (List.getElem?_eq_some_iff.1 hy).1
      have h2 := (h k n).2 ⟨n, rfl, y, by rw [List.getElem?_append_left h1]; exact hy, he⟩
      rw [hk, hx] at h2
      have := Option.some.inj h2
      omega
  · rw [if_neg hk, h]
    constructor
    · rintro ⟨n, rfl, y, hy, he⟩
      rcases Nat.lt_or_ge n its.length with h1 | h1
      · rw [List.getElem?_append_left h1] at hy
        exact ⟨n, rfl, y, hy, he⟩
      · rw [List.getElem?_append_right h1] at hy
        have : n - its.length = 0 := by
          rcases Nat.eq_zero_or_pos (n - its.length) with h2 | h2
          · exact h2
          · rw [List.getElem?_eq_none (by simp; omega)] at hy; cases hy
        rw [this] at hy
        cases hy
        exact absurd he.symm hk
    · rintro ⟨n, rfl, y, hy, he⟩
      exact ⟨n, rfl, y, by rw [List.getElem?_append_left (List.getElem?_eq_some_iff.1 hy).1]; exact hy, he⟩

end Go.Proofs.Ytdohfjidnbhfnaa.Hq

/- The plain law of the heap: rising and sinking end, keep what is in, and bring the least to the head. -/
namespace Go.Proofs.Ytdohfjidnbhfnaa.Hq

def leI (a b : Itm) : Prop := aheadI b a = false
theorem ahead_iff (a b : Itm) : aheadI a b = true ↔ a.2.1 < b.2.1 ∨ (a.2.1 = b.2.1 ∧ a.2.2 < b.2.2) := by
  unfold aheadI
  split
  · simp; omega
  · split
    · simp; omega
    · simp; omega
theorem leI_iff (a b : Itm) : leI a b ↔ ¬ (b.2.1 < a.2.1 ∨ (b.2.1 = a.2.1 ∧ b.2.2 < a.2.2)) := by
  unfold leI
  rw [← ahead_iff]
  simp
theorem leI_refl (a : Itm) : leI a a := by rw [leI_iff]; omega
theorem leI_trans {a b c : Itm} (h : leI a b) (h' : leI b c) : leI a c := by rw [leI_iff] at *; omega
theorem leI_of_ahead {a b : Itm} (h : aheadI a b = true) : leI a b := by rw [leI_iff]; rw [ahead_iff] at h; omega
theorem leI_of_not {a b : Itm} (h : ¬ aheadI a b = true) : leI b a := by unfold leI; simpa using h

def IsHeap (its : List Itm) : Prop := ∀ j, 0 < j → j < its.length → leI (its.getD ((j - 1) / 2) z) (its.getD j z)

theorem swapL_getD (its : List Itm) {i j : Nat} (hi : i < its.length) (hj : j < its.length) (n : Nat) : (swapL its i j).getD n z = if n = j then its.getD i z else if n = i then its.getD j z else its.getD n z := by
  rw [List.getD_eq_getElem?_getD, swapL_get its hi hj]
  split
  · rw [List.getD_eq_getElem?_getD]
  · split <;> rw [List.getD_eq_getElem?_getD]

theorem mem_swapL (its : List Itm) {i j : Nat} (hi : i < its.length) (hj : j < its.length) (x : Itm) : x ∈ swapL its i j ↔ x ∈ its := by
  rw [List.mem_iff_getElem?, List.mem_iff_getElem?]
  constructor
  · rintro ⟨n, hn⟩
    rw [swapL_get its hi hj] at hn
    split at hn
    · exact ⟨_, hn⟩
    · split at hn
      · exact ⟨_, hn⟩
      · exact ⟨_, hn⟩
  · rintro ⟨n, hn⟩
    by_cases h1 : n = i
    · refine ⟨j, ?_⟩
      rw [swapL_get its hi hj, if_pos rfl, ← h1, hn]
    · by_cases h2 : n = j
      · refine ⟨i, ?_⟩
        rw [swapL_get its hi hj]
        by_cases h3 : i = j
        · rw [if_pos h3]; omega
        · rw [if_neg h3, if_pos rfl, ← h2, hn]
      · exact ⟨n, by rw [swapL_get its hi hj, if_neg h2, if_neg h1, hn]⟩

theorem up_ok : ∀ (k : Nat) (its : List Itm) (i : Nat), i < its.length → i < k →
    (∀ j, 0 < j → j < its.length → j ≠ i → leI (its.getD ((j - 1) / 2) z) (its.getD j z)) →
    (∀ j, 0 < j → j < its.length → (j - 1) / 2 = i → 0 < i → leI (its.getD ((i - 1) / 2) z) (its.getD j z)) →
    ∃ R, upS k its i = some R ∧ IsHeap R ∧ R.length = its.length ∧ ∀ x, x ∈ R ↔ x ∈ its
  | 0, _, _, _, hk, _, _ => by omega
  | k + 1, its, i, hi, hk, h1, h2 => by
    rw [upS, if_pos hi]
    by_cases h0 : 0 < i
    · rw [if_pos h0]
      by_cases ha : aheadI (its.getD i z) (its.getD ((i - 1) / 2) z) = true
      · rw [if_pos ha]
        obtain ⟨p, hp⟩ : ∃ p, (i - 1) / 2 = p := ⟨_, rfl⟩
        have hpi : p < i := by omega
        have hpl : p < its.length := by omega
        rw [hp] at ha ⊢
        have hg := swapL_getD its hi hpl
        obtain ⟨R, r1, r2, r3, r4⟩ := up_ok k (swapL its i p) p (by rw [swapL_length]; exact hpl) (by omega) (by
          intro j hj hjl hjp
          rw [swapL_length] at hjl
          rw [hg, hg, if_neg hjp]
          by_cases hji : j = i
          · rw [if_pos hji, hji, hp, if_pos rfl]
            exact leI_of_ahead ha
          · rw [if_neg hji]
            by_cases e1 : (j - 1) / 2 = p
            · rw [if_pos e1]
              have := h1 j hj hjl hji
              rw [e1] at this
              exact leI_trans (leI_of_ahead ha) this
            · rw [if_neg e1]
              by_cases e2 : (j - 1) / 2 = i
              · rw [if_pos e2]
                have := h2 j hj hjl e2 h0
                rw [hp] at this
                exact this
              · rw [if_neg e2]
                exact h1 j hj hjl hji) (by
          intro j hj hjl hjp hp0
          rw [swapL_length] at hjl
          rw [hg, hg, if_neg (show ¬ (p - 1) / 2 = p by omega), if_neg (show ¬ (p - 1) / 2 = i by omega), if_neg (show ¬ j = p by omega)]
          have hpp := h1 p hp0 hpl (by omega)
          by_cases hji : j = i
          · rw [if_pos hji]
            exact hpp
          · rw [if_neg hji]
            have := h1 j hj hjl hji
            rw [hjp] at this
            exact leI_trans hpp this)
        exact ⟨R, r1, r2, by rw [r3, swapL_length], fun x => (r4 x).trans (mem_swapL its hi hpl x)⟩
      · rw [if_neg ha]
        refine ⟨its, rfl, ?_, rfl, fun x => Iff.rfl⟩
        intro j hj hjl
        by_cases hji : j = i
        · rw [hji]; exact leI_of_not ha
        · exact h1 j hj hjl hji
    · rw [if_neg h0]
      refine ⟨its, rfl, ?_, rfl, fun x => Iff.rfl⟩
      intro j hj hjl
      exact h1 j hj hjl (by omega)

theorem push_ok {its : List Itm} (h : IsHeap its) (x : Itm) : ∃ R, upS (its.length + 1) (its ++ [x]) its.length = some R ∧ IsHeap R ∧ R.length = its.length + 1 ∧ ∀ y, y ∈ R ↔ y ∈ its ∨ y = x := by
  have hl : (its ++ [x]).length = its.length + 1 := by simp
  have hg : ∀ j, j < its.length → (its ++ [x]).getD j z = its.getD j z := fun j hj => by
    rw [List.getD_eq_getElem?_getD, List.getElem?_append_left hj, List.getD_eq_getElem?_getD]
  obtain ⟨R, r1, r2, r3, r4⟩ := up_ok (its.length + 1) (its ++ [x]) its.length (by omega) (by omega) (by
    intro j hj hjl hne
    rw [hg _ (by omega), hg _ (by omega)]
    exact h j hj (by omega)) (by
    intro j hj hjl he h0
    omega)
  exact ⟨R, r1, r2, by omega, fun y => by rw [r4]; simp⟩

theorem leastS_cases {its : List Itm} {i : Nat} : leastS its i = i ∨ (leastS its i = 2 * i + 1 ∧ 2 * i + 1 < its.length) ∨ (leastS its i = 2 * i + 2 ∧ 2 * i + 2 < its.length) := by
  unfold leastS
  dsimp only
  by_cases h1 : 2 * i + 1 < its.length ∧ aheadI (its.getD (2 * i + 1) z) (its.getD i z) = true
  · rw [if_pos h1]
    split
    · rename_i h2; right; right; exact ⟨rfl, h2.1⟩
    · right; left; exact ⟨rfl, h1.1⟩
  · rw [if_neg h1]
    split
    · rename_i h2; right; right; exact ⟨rfl, h2.1⟩
    · left; rfl
theorem leastS_le {its : List Itm} {i : Nat} : leI (its.getD (leastS its i) z) (its.getD i z) ∧ (2 * i + 1 < its.length → leI (its.getD (leastS its i) z) (its.getD (2 * i + 1) z)) ∧ (2 * i + 2 < its.length → leI (its.getD (leastS its i) z) (its.getD (2 * i + 2) z)) := by
  unfold leastS
  dsimp only
  by_cases h1 : 2 * i + 1 < its.length ∧ aheadI (its.getD (2 * i + 1) z) (its.getD i z) = true
  · rw [if_pos h1]
    have a1 := leI_of_ahead h1.2
    by_cases h2 : 2 * i + 2 < its.length ∧ aheadI (its.getD (2 * i + 2) z) (its.getD (2 * i + 1) z) = true
    · rw [if_pos h2]
      have a2 := leI_of_ahead h2.2
      exact ⟨leI_trans a2 a1, fun _ => a2, fun _ => leI_refl _⟩
    · rw [if_neg h2]
      exact ⟨a1, fun _ => leI_refl _, fun h => leI_of_not (fun h3 => h2 ⟨h, h3⟩)⟩
  · rw [if_neg h1]
    by_cases h2 : 2 * i + 2 < its.length ∧ aheadI (its.getD (2 * i + 2) z) (its.getD i z) = true
    · rw [if_pos h2]
      have a2 := leI_of_ahead h2.2
      exact ⟨a2, fun h => leI_trans a2 (leI_of_not (fun h3 => h1 ⟨h, h3⟩)), fun _ => leI_refl _⟩
    · rw [if_neg h2]
      exact ⟨leI_refl _, fun h => leI_of_not (fun h3 => h1 ⟨h, h3⟩), fun h => leI_of_not (fun h3 => h2 ⟨h, h3⟩)⟩

theorem down_ok : ∀ (k : Nat) (its : List Itm) (i : Nat), i < its.length → its.length - i < k → its.length < 1000000 →
    (∀ j, 0 < j → j < its.length → (j - 1) / 2 ≠ i → leI (its.getD ((j - 1) / 2) z) (its.getD j z)) →
    (∀ j, 0 < j → j < its.length → (j - 1) / 2 = i → 0 < i → leI (its.getD ((i - 1) / 2) z) (its.getD j z)) →
    ∃ R, downS k its i = some R ∧ IsHeap R ∧ R.length = its.length ∧ ∀ x, x ∈ R ↔ x ∈ its
  | 0, _, _, _, hk, _, _, _ => by omega
  | k + 1, its, i, hi, hk, hb, h1, h2 => by
    rw [downS, if_pos ⟨hi, hb⟩]
    have hle := @leastS_le its i
    have hc := @leastS_cases its i
    obtain ⟨l, hl⟩ : ∃ l, leastS its i = l := ⟨_, rfl⟩
    rw [hl] at hle hc ⊢
    by_cases hli : l = i
    · rw [if_pos hli]
      refine ⟨its, rfl, ?_, rfl, fun x => Iff.rfl⟩
      intro j hj hjl
      by_cases hji : (j - 1) / 2 = i
      · rw [hji]
        rw [hli] at hle
        rcases Nat.lt_or_ge j (2 * i + 2) with h3 | h3
        · rw [show j = 2 * i + 1 by omega] at hjl ⊢
          exact hle.2.1 hjl
        · rw [show j = 2 * i + 2 by omega] at hjl ⊢
          exact hle.2.2 hjl
      · exact h1 j hj hjl hji
    · rw [if_neg hli]
      have hll : l < its.length ∧ (l - 1) / 2 = i ∧ i < l := by
        rcases hc with h | ⟨h, h'⟩ | ⟨h, h'⟩
        · exact absurd h hli
        · omega
        · omega
      have hg := swapL_getD its hi hll.1
      obtain ⟨R, r1, r2, r3, r4⟩ := down_ok k (swapL its i l) l (by rw [swapL_length]; exact hll.1) (by rw [swapL_length]; omega) (by rw [swapL_length]; exact hb) (by
        intro j hj hjl hjp
        rw [swapL_length] at hjl
        rw [hg, hg, if_neg hjp]
        by_cases e1 : (j - 1) / 2 = i
        · rw [if_pos e1]
          by_cases e2 : j = l
          · rw [if_pos e2]; exact hle.1
          · rw [if_neg e2, if_neg (show ¬ j = i by omega)]
            rcases Nat.lt_or_ge j (2 * i + 2) with h3 | h3
            · rw [show j = 2 * i + 1 by omega] at hjl ⊢
              exact hle.2.1 hjl
            · rw [show j = 2 * i + 2 by omega] at hjl ⊢
              exact hle.2.2 hjl
        · rw [if_neg e1, if_neg (show ¬ j = l by omega)]
          by_cases e2 : j = i
          · rw [if_pos e2]
            have := h2 l (by omega) hll.1 hll.2.1 (by omega)
            rw [e2]
            exact this
          · rw [if_neg e2]
            exact h1 j hj hjl e1) (by
        intro j hj hjl hjp hl0
        rw [swapL_length] at hjl
        rw [hg, hg, hll.2.1, if_neg (show ¬ i = l by omega), if_pos rfl, if_neg (show ¬ j = l by omega), if_neg (show ¬ j = i by omega)]
        have := h1 j hj hjl (by omega)
        rw [hjp] at this
        exact this)
      exact ⟨R, r1, r2, by rw [r3, swapL_length], fun x => (r4 x).trans (mem_swapL its hi hll.1 x)⟩

theorem head_least {its : List Itm} (h : IsHeap its) : ∀ (j : Nat), j < its.length → leI (its.getD 0 z) (its.getD j z) := by
  intro j
  induction j using Nat.strongRecOn with
  | _ j ih =>
    intro hj
    rcases Nat.eq_zero_or_pos j with rfl | h0
    · exact leI_refl _
    · exact leI_trans (ih ((j - 1) / 2) (by omega) (by omega)) (h j h0 hj)

end Go.Proofs.Ytdohfjidnbhfnaa.Hq
