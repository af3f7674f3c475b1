/- The plain model of scc's search: what the Go code computes, on lists of numbers alone. -/
import Derived.Lib.SlicesCompact
namespace Go.Proofs.Ythlmffjafeodlaa.Tj

structure St where
  idx : List Nat
  low : List Nat
  inn : List Bool
  opn : List Nat   -- the top first
  comp : List Nat
  cnt : Nat
  time : Nat

def enterS (S : St) (v : Nat) : St :=
  { S with time := S.time + 1, idx := S.idx.set v (S.time + 1), low := S.low.set v (S.time + 1), inn := S.inn.set v true, opn := v :: S.opn }

/-- Pops until v is out. -/
def popS (v cnt : Nat) : List Nat → List Bool → List Nat → Option (List Nat × List Bool × List Nat)
  | [], _, _ => none
  | w :: r, inn, comp =>
    if w < comp.length then
      (if w = v then some (r, inn.set w false, comp.set w cnt) else popS v cnt r (inn.set w false) (comp.set w cnt))
    else none

def leaveS (S : St) (v : Nat) : Option St :=
  if S.low.getD v 0 = S.idx.getD v 0 then
    (if S.cnt < 1000000 ∧ S.opn.length ≤ 1000000 then (popS v S.cnt S.opn S.inn S.comp).map fun r => { S with opn := r.1, inn := r.2.1, comp := r.2.2, cnt := S.cnt + 1 } else none)
  else some S

/-- The search's loop; the way's top first. -/
def fromS (n : Nat) (out : List (List Nat)) : Nat → St → List (Nat × Nat) → Option St
  | 0, _, _ => none
  | _ + 1, S, [] => some S
  | k + 1, S, (v, m) :: way =>
    if v < n then
      if m = (out.getD v []).length then
        (leaveS S v).bind fun S1 => match way with
          | [] => fromS n out k S1 []
          | (u, m') :: r => if u < n then fromS n out k { S1 with low := S1.low.set u (min (S1.low.getD u 0) (S1.low.getD v 0)) } ((u, m') :: r) else none
      else if m < (out.getD v []).length then
        if (out.getD v []).getD m 0 < n then
          if S.idx.getD ((out.getD v []).getD m 0) 0 = 0 then
            if S.time < 1000000 ∧ S.opn.length < 1000000 ∧ way.length < 1000000 then fromS n out k (enterS S ((out.getD v []).getD m 0)) (((out.getD v []).getD m 0, 0) :: (v, m + 1) :: way) else none
          else if S.inn.getD ((out.getD v []).getD m 0) false = true then
            fromS n out k { S with low := S.low.set v (min (S.low.getD v 0) (S.idx.getD ((out.getD v []).getD m 0) 0)) } ((v, m + 1) :: way)
          else fromS n out k S ((v, m + 1) :: way)
        else none
      else none
    else none

end Go.Proofs.Ythlmffjafeodlaa.Tj

/- The plain model of scc's comps. -/
namespace Go.Proofs.Ythlmffjafeodlaa.Tj

/-- From each vertex that has not been come to. -/
def scanS (n : Nat) (out : List (List Nat)) (k : Nat) : List Nat → St → Option St
  | [], S => some S
  | v :: r, S =>
    if S.idx.getD v 0 = 0 then
      (if S.time < 1000000 ∧ S.opn.length < 1000000 then (fromS n out k (enterS S v) [(v, 0)]).bind (scanS n out k r) else none)
    else scanS n out k r S

/-- The components numbered anew, by rising heads: comp's rest, the numbers given so far, how many. -/
def renum : List Nat → List Nat → Nat → Option (List Nat × Nat)
  | [], _, next => some ([], next)
  | c :: r, number, next =>
    if c < number.length ∧ next < 1000000 ∧ number.getD c 0 ≤ 1000000 then
      (if number.getD c 0 = 0 then (renum r (number.set c (next + 1)) (next + 1)).map fun x => (next :: x.1, x.2)
       else (renum r number next).map fun x => ((number.getD c 0 - 1) :: x.1, x.2))
    else none

def st0 (n : Nat) : St := { idx := List.replicate n 0, low := List.replicate n 0, inn := List.replicate n false, opn := [], comp := List.replicate n 0, cnt := 0, time := 0 }

def compsS (n : Nat) (out : List (List Nat)) (k : Nat) : Option (List Nat × Nat) :=
  (scanS n out k (List.range n) (st0 n)).bind fun S => renum S.comp (List.replicate n 0) 0

end Go.Proofs.Ythlmffjafeodlaa.Tj

/- The plain model of scc's made. -/
namespace Go.Proofs.Ythlmffjafeodlaa.Tj

/-- The arcs, one by one, among the vertices vs; none: an end is no vertex. -/
def arcsS (vs : List Int) : List (Int × Int) → List (List Nat) → Option (List (List Nat))
  | [], out => some out
  | (u, v) :: r, out =>
    if vs.contains u = true ∧ vs.contains v = true then
      arcsS vs r (out.set (vs.countP (· < u)) (out.getD (vs.countP (· < u)) [] ++ [vs.countP (· < v)]))
    else none

theorem countP_lt {l : List Int} {u : Int} (h : l.contains u = true) : l.countP (· < u) < l.length := by
  have h1 := List.countP_le_length (p := fun x => decide (x < u)) (l := l)
  rcases Nat.lt_or_ge (l.countP (· < u)) l.length with h2 | h2
  · exact h2
  · have h3 := List.countP_eq_length.1 (Nat.le_antisymm h1 h2) u (by simpa using h)
    simp at h3

end Go.Proofs.Ythlmffjafeodlaa.Tj

/- The plain model of scc's Of. -/
namespace Go.Proofs.Ythlmffjafeodlaa.Tj

/-- The vertices by component. -/
def groupL : List Nat → List Int → List (List Int) → Option (List (List Int))
  | c :: r, x :: xs, out => if c < out.length then groupL r xs (out.set c (out.getD c [] ++ [x])) else none
  | _, _, out => some out

theorem groupL_length : ∀ (cs : List Nat) (xs : List Int) (out ls : List (List Int)), groupL cs xs out = some ls → ls.length = out.length
  | [], _, out, ls, h => by rw [groupL.eq_2] at h; cases h; rfl; intros; simp_all
  | _ :: _, [], out, ls, h => by rw [groupL.eq_2] at h; cases h; rfl; intros; simp_all
  | c :: r, x :: xs, out, ls, h => by
    rw [groupL] at h
    split at h
    · have := groupL_length r xs _ ls h
      simpa using this
    · cases h

/-- What Of answers: the error's number, the lists. (none: the search did not end in k rounds.) -/
def ofS (l : List Int) (arcs : List (Int × Int)) (sl : List Int) (k : Nat) : Option (Nat × List (List Int)) :=
  if (Lib.compact sl).length = l.length then
    match arcsS sl arcs (List.replicate l.length []) with
    | none => some (5, [])
    | some out => (compsS l.length out k).bind fun c => (groupL c.1 sl (List.replicate c.2 [])).map fun ls => (0, ls)
  else some (2, [])

end Go.Proofs.Ythlmffjafeodlaa.Tj

/- The plain model keeps its rows' lengths. -/
namespace Go.Proofs.Ythlmffjafeodlaa.Tj

/-- All rows are n long. -/
structure Len (n : Nat) (S : St) : Prop where
  i : S.idx.length = n
  l : S.low.length = n
  b : S.inn.length = n
  c : S.comp.length = n

theorem Len.st0 (n : Nat) : Len n (st0 n) := by constructor <;> simp [Tj.st0]
theorem Len.enter {n : Nat} {S : St} (h : Len n S) (v : Nat) : Len n (enterS S v) := by
  constructor <;> simp [enterS, h.i, h.l, h.b, h.c]
theorem popS_len : ∀ (v cnt : Nat) (o : List Nat) (inn : List Bool) (comp : List Nat) (R : List Nat × List Bool × List Nat), popS v cnt o inn comp = some R → R.2.1.length = inn.length ∧ R.2.2.length = comp.length
  | _, _, [], _, _, _, h => by cases h
  | v, cnt, w :: r, inn, comp, R, h => by
    rw [popS] at h
    split at h
    · split at h
      · cases h; simp
      · have := popS_len v cnt r _ _ R h
        simpa using this
    · cases h
theorem Len.leave {n : Nat} {S S2 : St} (h : Len n S) {v : Nat} (h2 : leaveS S v = some S2) : Len n S2 := by
  unfold leaveS at h2
  split at h2
  · split at h2
    · cases hp : popS v S.cnt S.opn S.inn S.comp with
      | none => rw [hp] at h2; cases h2
      | some R =>
        rw [hp] at h2
        cases h2
        have := popS_len _ _ _ _ _ _ hp
        exact ⟨h.i, h.l, this.1.trans h.b, this.2.trans h.c⟩
    · cases h2
  · cases h2
    exact h
theorem Len.low {n : Nat} {S : St} (h : Len n S) (u x : Nat) : Len n { S with low := S.low.set u x } := ⟨h.i, by simpa using h.l, h.b, h.c⟩
theorem Len.from {n : Nat} {out : List (List Nat)} : ∀ (k : Nat) (S : St) (way : List (Nat × Nat)) (R : St), Len n S → fromS n out k S way = some R → Len n R
  | 0, _, _, _, _, h => by cases h
  | _ + 1, S, [], R, hS, h => by simp only [fromS] at h; cases h; exact hS
  | k + 1, S, (v, m) :: way, R, hS, h => by
    simp only [fromS] at h
    split at h
    · split at h
      · cases hl : leaveS S v with
        | none => rw [hl] at h; cases h
        | some S1 =>
          rw [hl, Option.bind_some] at h
          have h1 := hS.leave hl
          cases way with
          | nil => exact Len.from k S1 [] R h1 h
          | cons p r =>
            obtain ⟨u, m'⟩ := p
            dsimp only at h
            split at h
            · exact Len.from k _ _ R (h1.low _ _) h
            · cases h
      · split at h
        · split at h
          · split at h
            · split at h
              · exact Len.from k _ _ R (hS.enter _) h
              · cases h
            · split at h
              · exact Len.from k _ _ R (hS.low _ _) h
              · exact Len.from k _ _ R hS h
          · cases h
        · cases h
    · cases h
theorem Len.scan {n : Nat} {out : List (List Nat)} {k : Nat} : ∀ (l : List Nat) (S R : St), Len n S → scanS n out k l S = some R → Len n R
  | [], S, R, hS, h => by simp only [scanS] at h; cases h; exact hS
  | v :: r, S, R, hS, h => by
    rw [scanS] at h
    split at h
    · split at h
      · cases hf : fromS n out k (enterS S v) [(v, 0)] with
        | none => rw [hf] at h; cases h
        | some S2 =>
          rw [hf, Option.bind_some] at h
          exact Len.scan r S2 R (Len.from k _ _ _ (hS.enter v) hf) h
      · cases h
    · exact Len.scan r S R hS h
theorem renum_len : ∀ (c num : List Nat) (nx : Nat) (o : List Nat) (nx' : Nat), renum c num nx = some (o, nx') → nx ≤ 1000000 → o.length = c.length ∧ nx' ≤ 1000000
  | [], num, nx, o, nx', h, hn => by rw [renum] at h; cases h; exact ⟨rfl, hn⟩
  | c :: r, num, nx, o, nx', h, hn => by
    rw [renum] at h
    split at h
    · rename_i hc
      split at h
      · cases hr : renum r (num.set c (nx + 1)) (nx + 1) with
        | none => rw [hr] at h; cases h
        | some q =>
          rw [hr] at h
          obtain ⟨o1, n1⟩ := q
          cases h
          have := renum_len r _ _ o1 n1 hr (by omega)
          exact ⟨by simp [this.1], this.2⟩
      · cases hr : renum r num nx with
        | none => rw [hr] at h; cases h
        | some q =>
          rw [hr] at h
          obtain ⟨o1, n1⟩ := q
          cases h
          have := renum_len r _ _ o1 n1 hr hn
          exact ⟨by simp [this.1], this.2⟩
    · cases h
theorem comps_len {n : Nat} {out : List (List Nat)} {k : Nat} {comp : List Nat} {next : Nat} (h : compsS n out k = some (comp, next)) : comp.length = n ∧ next ≤ 1000000 := by
  unfold compsS at h
  cases hs : scanS n out k (List.range n) (st0 n) with
  | none => rw [hs] at h; cases h
  | some S =>
    rw [hs, Option.bind_some] at h
    have h1 := Len.scan _ _ _ (Len.st0 n) hs
    have h2 := renum_len _ _ _ _ _ h (by omega)
    exact ⟨h2.1.trans h1.c, h2.2⟩

end Go.Proofs.Ythlmffjafeodlaa.Tj

/- The plain model of scc.Order: heads, arcs into a component, the components that are ready. -/
namespace Go.Proofs.Ythlmffjafeodlaa.Tj

/-- A sorted list with one number more. -/
def insS (c : Nat) : List Nat → List Nat
  | [] => [c]
  | x :: r => if c < x then c :: x :: r else x :: insS c r
theorem mem_insS (c : Nat) : ∀ (l : List Nat) (x : Nat), x ∈ insS c l ↔ x = c ∨ x ∈ l
  | [], x => by simp [insS]
  | y :: r, x => by
    rw [insS]
    split
    · simp
    · rw [List.mem_cons, mem_insS c r, List.mem_cons]
      constructor
      · rintro (h | h | h)
        · exact .inr (.inl h)
        · exact .inl h
        · exact .inr (.inr h)
      · rintro (h | h | h)
        · exact .inr (.inl h)
        · exact .inl h
        · exact .inr (.inr h)
theorem insS_sorted (c : Nat) : ∀ (l : List Nat), l.Pairwise (· < ·) → c ∉ l → (insS c l).Pairwise (· < ·)
  | [], _, _ => by simp [insS]
  | x :: r, h, hc => by
    rw [insS]
    rw [List.pairwise_cons] at h
    split
    · rename_i hx
      rw [List.pairwise_cons, List.pairwise_cons]
      refine ⟨fun y hy => ?_, h⟩
      rcases List.mem_cons.1 hy with rfl | hy
      · exact hx
      · have := h.1 y hy; omega
    · rename_i hx
      rw [List.pairwise_cons]
      refine ⟨fun y hy => ?_, insS_sorted c r h.2 (fun h3 => hc (List.mem_cons.2 (.inr h3)))⟩
      rcases (mem_insS c r y).1 hy with rfl | hy
      · have : x ≠ y := fun he => hc (he ▸ List.mem_cons.2 (.inl rfl))
        omega
      · exact h.1 y hy


/-- The arcs of one place whose component is c. -/
def rowO (comp : List Nat) (c : Nat) : List Nat → List Nat → List (List Nat) → Option (List Nat × List (List Nat))
  | [], into, outs => some (into, outs)
  | x :: r, into, outs =>
    match comp[x]? with
    | none => none
    | some cx =>
      if cx = c then rowO comp c r into outs
      else if (cx < into.length ∧ into.getD cx 0 < 1000000) ∧ c < outs.length ∧ (outs.getD c []).length < 1000000 then rowO comp c r (into.set cx (into.getD cx 0 + 1)) (outs.set c (outs.getD c [] ++ [cx]))
      else none

/-- All places, from the last. -/
def vertsO (comp : List Nat) (sl : List Int) (out : List (List Nat)) : Nat → List Int → List Nat → List (List Nat) → Option (List Int × List Nat × List (List Nat))
  | 0, head, into, outs => some (head, into, outs)
  | v + 1, head, into, outs =>
    match comp[v]?, sl[v]?, out[v]? with
    | some c, some x, some row =>
      if c < head.length then
        match rowO comp c row into outs with
        | some (i, o) => vertsO comp sl out v (head.set c x) i o
        | none => none
      else none
    | _, _, _ => none

/-- The components into which no arc leads. -/
def seedO (into : List Nat) : Nat → Nat → List Nat → Nat → Option (List Nat × Nat)
  | 0, _, rs, came => some (rs, came)
  | k + 1, c, rs, came =>
    match into[c]? with
    | none => none
    | some 0 => if c ∉ rs ∧ came < 1000000 then seedO into k (c + 1) (insS c rs) (came + 1) else none
    | some (_ + 1) => seedO into k (c + 1) rs came

/-- The arcs out of a component that has been told. -/
def freeO : List Nat → List Nat → List Nat → Nat → Option (List Nat × List Nat × Nat)
  | [], into, rs, came => some (into, rs, came)
  | d :: r, into, rs, came =>
    match into[d]? with
    | some (q + 1) =>
      if q < 1000000 then
        (if q = 0 then (if d ∉ rs ∧ came < 1000000 then freeO r (into.set d q) (insS d rs) (came + 1) else none)
        else freeO r (into.set d q) rs came)
      else none
    | _ => none

def loopO (head : List Int) (outs : List (List Nat)) : Nat → List Nat → List Nat → Nat → List Int → Option (List Int)
  | 0, _, _, _, _ => none
  | _ + 1, _, [], _, told => some told
  | k + 1, into, c :: rs, came, told =>
    match head[c]?, outs[c]? with
    | some h, some row =>
      if told.length < 1000000 ∧ came < 1000000 then
        match freeO row into rs came with
        | some (i, r, m) => loopO head outs k i r m (told ++ [h])
        | none => none
      else none
    | _, _ => none

/-- scc.Order of the lists: the code, the heads. -/
def orderS (l : List Int) (arcs : List (Int × Int)) (sl : List Int) (k : Nat) : Option (Nat × List Int) :=
  if (Lib.compact sl).length = l.length then
    match arcsS sl arcs (List.replicate l.length []) with
    | none => some (5, [])
    | some out =>
      (compsS l.length out k).bind fun cn => (vertsO cn.1 sl out l.length (List.replicate cn.2 0) (List.replicate cn.2 0) (List.replicate cn.2 [])).bind fun hio =>
        (seedO hio.2.1 cn.2 0 [] 0).bind fun rc => (loopO hio.1 hio.2.2 k hio.2.1 rc.1 rc.2 []).map fun told => (0, told)
  else some (2, [])

def acyB (arcs : List (Int × Int)) (m n : Nat) : Bool := if arcs.all (fun p => decide (p.1 ≠ p.2)) = true then decide (m = n) else false

/-- scc.Acyclic of the lists: the code, the answer. -/
def acyS (l : List Int) (arcs : List (Int × Int)) (sl : List Int) (k : Nat) : Option (Nat × Bool) :=
  if (Lib.compact sl).length = l.length then
    match arcsS sl arcs (List.replicate l.length []) with
    | none => some (5, false)
    | some out => (compsS l.length out k).map fun c => (0, acyB arcs c.2 l.length)
  else some (2, false)

theorem rowO_length {comp : List Nat} {c : Nat} : ∀ (r into : List Nat) (outs : List (List Nat)) (I : List Nat) (O : List (List Nat)), rowO comp c r into outs = some (I, O) → I.length = into.length ∧ O.length = outs.length
  | [], into, outs, I, O, h => by cases h; exact ⟨rfl, rfl⟩
  | x :: r, into, outs, I, O, h => by
    rw [rowO] at h
    split at h
    · cases h
    · split at h
      · exact rowO_length r into outs I O h
      · split at h
        · have := rowO_length r _ _ I O h
          simpa using this
        · cases h
theorem vertsO_length {comp : List Nat} {sl : List Int} {out : List (List Nat)} : ∀ (k : Nat) (head : List Int) (into : List Nat) (outs : List (List Nat)) (H : List Int) (I : List Nat) (O : List (List Nat)), vertsO comp sl out k head into outs = some (H, I, O) → H.length = head.length ∧ I.length = into.length ∧ O.length = outs.length
  | 0, head, into, outs, H, I, O, h => by cases h; exact ⟨rfl, rfl, rfl⟩
  | v + 1, head, into, outs, H, I, O, h => by
    rw [vertsO] at h
    split at h
    · split at h
      · split at h
        · rename_i hr
          have h1 := vertsO_length v _ _ _ H I O h
          have h2 := rowO_length _ _ _ _ _ hr
          simp only [List.length_set] at h1
          omega
        · cases h
      · cases h
    · cases h

end Go.Proofs.Ythlmffjafeodlaa.Tj
