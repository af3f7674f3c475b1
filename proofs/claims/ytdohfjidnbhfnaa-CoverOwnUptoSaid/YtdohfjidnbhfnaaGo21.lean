/- Sets of numbers as runs, plainly. -/
import Derived.Test.YtdohfjidnbhfnaaProg
import Derived.Test.YtdohfjidnbhfnaaGo20
import Derived.KernelRfl
import Derived.Deep.QuietTactic
import Derived.BigQuiet
import Derived.Deep.DrawnRows
import Derived.Deep.LoopGhost
import Derived.Deep.DeepCutAuto
import Derived.BigRegion
import Derived.Outline
import Derived.WalkLawsBesides
import Derived.WalkSpells
import Derived.Lib.Hide
namespace Go.Proofs.Ytdohfjidnbhfnaa.Sp
set_option linter.unusedSimpArgs false
set_option linter.unusedVariables false

def Canon : Int → List (Int × Int) → Prop
  | _, [] => True
  | b, r :: l => b < r.1 ∧ r.1 ≤ r.2 ∧ Canon (r.2 + 1) l
def Mem (l : List (Int × Int)) (x : Int) : Prop := ∃ r ∈ l, r.1 ≤ x ∧ x ≤ r.2

theorem mem_nil (x : Int) : ¬ Mem [] x := by rintro ⟨r, h, _⟩; simp at h
theorem mem_cons {r : Int × Int} {l : List (Int × Int)} {x : Int} : Mem (r :: l) x ↔ (r.1 ≤ x ∧ x ≤ r.2) ∨ Mem l x := by
  simp [Mem]
theorem Canon.weaken : ∀ {l : List (Int × Int)} {b b' : Int}, Canon b l → b' ≤ b → Canon b' l
  | [], _, _, _, _ => trivial
  | _ :: _, _, _, h, hb => ⟨by have := h.1; omega, h.2⟩
theorem Canon.low : ∀ {l : List (Int × Int)} {b x : Int}, Canon b l → Mem l x → b < x
  | [], _, _, _, h => absurd h (mem_nil _)
  | r :: l, b, x, h, hm => by
    have h1 := h.1
    have h2 := h.2.1
    rcases mem_cons.1 hm with h3 | h3
    · omega
    · have := h.2.2.low h3; omega
theorem Canon.mem_low : ∀ {l : List (Int × Int)} {b : Int}, Canon b l → ∀ r ∈ l, b < r.1 ∧ r.1 ≤ r.2
  | [], _, _, _, h => by simp at h
  | r :: l, b, h, r', hr => by
    rcases List.mem_cons.1 hr with rfl | hr
    · exact ⟨h.1, h.2.1⟩
    · have := h.2.2.mem_low r' hr
      have := h.1
      have := h.2.1
      omega
theorem canon_ext : ∀ {l l' : List (Int × Int)} {b b' : Int}, Canon b l → Canon b' l' → (∀ x, Mem l x ↔ Mem l' x) → l = l'
  | [], [], _, _, _, _, _ => rfl
  | [], r :: l', _, _, _, h', e => absurd ((e r.1).2 (mem_cons.2 (.inl ⟨Int.le_refl _, h'.2.1⟩))) (mem_nil _)
  | r :: l, [], _, _, h, _, e => absurd ((e r.1).1 (mem_cons.2 (.inl ⟨Int.le_refl _, h.2.1⟩))) (mem_nil _)
  | (a, b) :: l, (a', b') :: l', c, c', h, h', e => by
    have h2 := h.2.1
    have h2' := h'.2.1
    dsimp only at h2 h2'
    have m1 : Mem ((a', b') :: l') a := (e a).1 (mem_cons.2 (.inl ⟨Int.le_refl _, h2⟩))
    have m2 : Mem ((a, b) :: l) a' := (e a').2 (mem_cons.2 (.inl ⟨Int.le_refl _, h2'⟩))
    have ea : a = a' := by
      rcases mem_cons.1 m1 with h3 | h3 <;> rcases mem_cons.1 m2 with h4 | h4
      · dsimp only at h3 h4; omega
      · have := h.2.2.low h4; dsimp only at h3 this; omega
      · have := h'.2.2.low h3; dsimp only at h4 this; omega
      · have := h'.2.2.low h3; have := h.2.2.low h4; dsimp only at *; omega
    subst ea
    have eb : b = b' := by
      rcases Int.lt_trichotomy b b' with h5 | h5 | h5
      · have m : Mem ((a, b) :: l) (b + 1) := (e _).2 (mem_cons.2 (.inl ⟨by dsimp only; omega, by dsimp only; omega⟩))
        rcases mem_cons.1 m with h6 | h6
        · dsimp only at h6; omega
        · have := h.2.2.low h6; dsimp only at this; omega
      · exact h5
      · have m : Mem ((a, b') :: l') (b' + 1) := (e _).1 (mem_cons.2 (.inl ⟨by dsimp only; omega, by dsimp only; omega⟩))
        rcases mem_cons.1 m with h6 | h6
        · dsimp only at h6; omega
        · have := h'.2.2.low h6; dsimp only at this; omega
    subst eb
    have : l = l' := canon_ext h.2.2 h'.2.2 fun x => by
      have := e x
      rw [mem_cons, mem_cons] at this
      constructor
      · intro hm
        have h7 := h.2.2.low hm
        dsimp only at h7
        rcases this.1 (.inr hm) with h8 | h8
        · dsimp only at h8; omega
        · exact h8
      · intro hm
        have h7 := h'.2.2.low hm
        dsimp only at h7
        rcases this.2 (.inr hm) with h8 | h8
        · dsimp only at h8; omega
        · exact h8
    rw [this]

def ins (x : Int × Int) : List (Int × Int) → List (Int × Int)
  | [] => [x]
  | r :: l => if r.2 + 1 < x.1 then r :: ins x l else if x.2 + 1 < r.1 then x :: r :: l else ins (min x.1 r.1, max x.2 r.2) l
theorem ins_ok : ∀ (l : List (Int × Int)) (x : Int × Int) (b : Int), Canon b l → b < x.1 → x.1 ≤ x.2 → Canon b (ins x l) ∧ ∀ y, Mem (ins x l) y ↔ Mem l y ∨ (x.1 ≤ y ∧ y ≤ x.2)
  | [], x, b, _, h1, h2 => ⟨⟨h1, h2, trivial⟩, fun y => by rw [ins, mem_cons]; simp [mem_nil]⟩
  | r :: l, x, b, h, h1, h2 => by
    have g1 := h.1
    have g2 := h.2.1
    rw [ins]
    split
    · rename_i h3
      obtain ⟨i1, i2⟩ := ins_ok l x (r.2 + 1) h.2.2 (by omega) h2
      refine ⟨⟨g1, g2, i1⟩, fun y => ?_⟩
      rw [mem_cons, mem_cons, i2]
      constructor
      · rintro (h | h | h)
        · exact .inl (.inl h)
        · exact .inl (.inr h)
        · exact .inr h
      · rintro ((h | h) | h)
        · exact .inl h
        · exact .inr (.inl h)
        · exact .inr (.inr h)
    · split
      · rename_i h3 h4
        refine ⟨⟨h1, h2, by omega, g2, h.2.2⟩, fun y => ?_⟩
        rw [mem_cons]
        exact Or.comm
      · rename_i h3 h4
        obtain ⟨i1, i2⟩ := ins_ok l (min x.1 r.1, max x.2 r.2) b (h.2.2.weaken (by omega)) (by dsimp only; omega) (by dsimp only; omega)
        refine ⟨i1, fun y => ?_⟩
        rw [i2, mem_cons]
        dsimp only
        constructor
        · rintro (h | h)
          · exact .inl (.inr h)
          · by_cases h5 : x.1 ≤ y ∧ y ≤ x.2
            · exact .inr h5
            · exact .inl (.inl (by omega))
        · rintro ((h | h) | h)
          · exact .inr (by omega)
          · exact .inl h
          · exact .inr (by omega)

def addF : List (Int × Int) → List (Int × Int) → Int × Int → List (Int × Int) → List (Int × Int) × (Int × Int) × List (Int × Int)
  | [], a, x, c => (a, x, c)
  | r :: l, a, x, c => if r.2 + 1 < x.1 then addF l (a ++ [r]) x c else if x.2 + 1 < r.1 then addF l a x (c ++ [r]) else addF l a (min x.1 r.1, max x.2 r.2) c
theorem addF_high : ∀ (l a : List (Int × Int)) (x : Int × Int) (c : List (Int × Int)) (b : Int), Canon b l → x.1 ≤ x.2 → x.2 < b → addF l a x c = (a, x, c ++ l)
  | [], a, x, c, _, _, _, _ => by rw [addF, List.append_nil]
  | r :: l, a, x, c, b, h, h1, h2 => by
    have g1 := h.1
    have g2 := h.2.1
    rw [addF, if_neg (by omega), if_pos (by omega), addF_high l a x (c ++ [r]) (r.2 + 1) h.2.2 h1 (by omega)]
    simp
theorem addF_ins : ∀ (l a : List (Int × Int)) (x : Int × Int) (b : Int), Canon b l → x.1 ≤ x.2 → (addF l a x []).1 ++ (addF l a x []).2.1 :: (addF l a x []).2.2 = a ++ ins x l
  | [], a, x, _, _, _ => rfl
  | r :: l, a, x, b, h, h1 => by
    have g2 := h.2.1
    rw [addF, ins]
    split
    · rw [addF_ins l (a ++ [r]) x _ h.2.2 h1, List.append_assoc]; rfl
    · split
      · rename_i h3 h4
        rw [addF_high l a x _ (r.2 + 1) h.2.2 h1 (by omega)]
        rfl
      · exact addF_ins l a (min x.1 r.1, max x.2 r.2) _ h.2.2 (by dsimp only; omega)

def fromS (l : List (Int × Int)) (x : Int) : Nat := l.countP fun r => decide (r.2 < x)
def holdsB (l : List (Int × Int)) (lo hi : Int) : Bool :=
  if hi < lo then true else match l[fromS l lo]? with
  | some r => decide (r.1 ≤ lo) && decide (hi ≤ r.2)
  | none => false
theorem fromS_cons (r : Int × Int) (l : List (Int × Int)) (x : Int) : fromS (r :: l) x = fromS l x + if r.2 < x then 1 else 0 := by
  simp [fromS, List.countP_cons]
theorem fromS_zero : ∀ {l : List (Int × Int)} {b x : Int}, Canon b l → x ≤ b → fromS l x = 0
  | [], _, _, _, _ => rfl
  | r :: l, b, x, h, hx => by
    have := h.1
    have := h.2.1
    rw [fromS_cons, fromS_zero h.2.2 (by omega), if_neg (by omega)]
theorem fromS_le (l : List (Int × Int)) (x : Int) : fromS l x ≤ l.length := List.countP_le_length
theorem fromS_spec : ∀ {l : List (Int × Int)} {b x : Int}, Canon b l → ∀ (i : Nat) (r : Int × Int), l[i]? = some r → (x ≤ r.2 ↔ fromS l x ≤ i)
  | [], _, _, _, i, r, h => by simp at h
  | s :: l, b, x, h, 0, r, hr => by
    cases hr
    rw [fromS_cons]
    by_cases h1 : s.2 < x
    · rw [if_pos h1]; omega
    · rw [if_neg h1, fromS_zero h.2.2 (by omega)]; omega
  | s :: l, b, x, h, i + 1, r, hr => by
    rw [fromS_cons]
    have := fromS_spec (x := x) h.2.2 i r (by simpa using hr)
    by_cases h1 : s.2 < x
    · rw [if_pos h1]; omega
    · have h2 := fromS_zero (x := x) h.2.2 (by omega)
      have h3 := h.2.2.mem_low r (List.mem_of_getElem? (by simpa using hr))
      rw [if_neg h1]; omega
theorem mem_from {l : List (Int × Int)} {b : Int} (h : Canon b l) (x : Int) : Mem l x ↔ ∃ r, l[fromS l x]? = some r ∧ r.1 ≤ x ∧ x ≤ r.2 := by
  constructor
  · rintro ⟨r, hr, h1, h2⟩
    obtain ⟨i, hi⟩ := List.getElem?_of_mem hr
    have h3 := (fromS_spec h i r hi).1 h2
    have : fromS l x = i := by
      rcases Nat.lt_or_ge (fromS l x) i with h4 | h4
      · exfalso
        have hlt : fromS l x < l.length := by have := (List.getElem?_eq_some_iff.1 hi).1; omega
        have h5 := (fromS_spec (x := x) h _ _ (List.getElem?_eq_getElem hlt)).2 (Nat.le_refl _)
        have h6 : ∀ (l : List (Int × Int)) (b : Int), Canon b l → ∀ (i j : Nat) (p q : Int × Int), i < j → l[i]? = some p → l[j]? = some q → p.2 + 1 < q.1 := by
          intro l
          induction l with
          | nil => intro b _ i j p q _ h; simp at h
          | cons s l ih =>
            intro b hc i j p q hij hp hq
            obtain ⟨j, rfl⟩ : ∃ k, j = k + 1 := ⟨j - 1, by omega⟩
            cases i with
            | zero =>
              cases hp
              exact (hc.2.2.mem_low q (List.mem_of_getElem? (by simpa using hq))).1
            | succ i => exact ih _ hc.2.2 i j p q (by omega) (by simpa using hp) (by simpa using hq)
        have := h6 l b h _ i _ r h4 (List.getElem?_eq_getElem hlt) hi
        omega
      · omega
    exact ⟨r, by rw [this]; exact hi, h1, h2⟩
  · rintro ⟨r, hr, h1⟩
    exact ⟨r, List.mem_of_getElem? hr, h1⟩
theorem holds_one {l : List (Int × Int)} {b : Int} (h : Canon b l) (x : Int) : holdsB l x x = true ↔ Mem l x := by
  rw [mem_from h, holdsB, if_neg (by omega)]
  cases hr : l[fromS l x]? with
  | none => simp
  | some r => simp
theorem holds_all {l : List (Int × Int)} {b lo hi : Int} (h : Canon b l) (hh : holdsB l lo hi = true) : ∀ y, lo ≤ y → y ≤ hi → Mem l y := by
  intro y h1 h2
  rw [holdsB, if_neg (by omega)] at hh
  cases hr : l[fromS l lo]? with
  | none => simp [hr] at hh
  | some r =>
    simp only [hr, Bool.and_eq_true, decide_eq_true_eq] at hh
    exact ⟨r, List.mem_of_getElem? hr, by omega, by omega⟩

def addR (l : List (Int × Int)) (lo hi : Int) : List (Int × Int) := if holdsB l lo hi = true then l else ins (lo, hi) l
theorem addR_ok {l : List (Int × Int)} {b lo hi : Int} (h : Canon b l) (h1 : b < lo) (h2 : lo ≤ hi) : Canon b (addR l lo hi) ∧ ∀ y, Mem (addR l lo hi) y ↔ Mem l y ∨ (lo ≤ y ∧ y ≤ hi) := by
  unfold addR
  split
  · rename_i h3
    refine ⟨h, fun y => ⟨.inl, ?_⟩⟩
    rintro (h4 | h4)
    · exact h4
    · exact holds_all h h3 y h4.1 h4.2
  · exact ins_ok l (lo, hi) b h h1 h2
def joinR : List (Int × Int) → List (Int × Int) → List (Int × Int)
  | l, [] => l
  | l, r :: t => joinR (addR l r.1 r.2) t
theorem joinR_ok : ∀ (t l : List (Int × Int)) (b : Int), Canon b l → Canon b t → Canon b (joinR l t) ∧ ∀ y, Mem (joinR l t) y ↔ Mem l y ∨ Mem t y
  | [], l, b, h, _ => ⟨h, fun y => by simp [joinR, mem_nil]⟩
  | r :: t, l, b, h, ht => by
    obtain ⟨i1, i2⟩ := addR_ok h ht.1 ht.2.1
    obtain ⟨j1, j2⟩ := joinR_ok t (addR l r.1 r.2) b i1 (ht.2.2.weaken (by have := ht.1; have := ht.2.1; omega))
    refine ⟨j1, fun y => ?_⟩
    rw [joinR, j2, i2, mem_cons]
    constructor
    · rintro ((h | h) | h)
      · exact .inl h
      · exact .inr (.inl h)
      · exact .inr (.inr h)
    · rintro (h | h | h)
      · exact .inl (.inl h)
      · exact .inl (.inr h)
      · exact .inr h
def Ok (l : List (Int × Int)) : Prop := Canon 0 l ∧ ∀ x, Mem l x → x ≤ 1000000
theorem Ok.nil : Ok [] := ⟨trivial, fun x h => absurd h (mem_nil _)⟩
theorem Ok.at {l : List (Int × Int)} (h : Ok l) {r : Int × Int} (hr : r ∈ l) : 0 < r.1 ∧ r.1 ≤ r.2 ∧ r.2 ≤ 1000000 := by
  obtain ⟨h1, h2⟩ := h.1.mem_low r hr
  exact ⟨h1, h2, h.2 r.2 ⟨r, hr, h2, Int.le_refl _⟩⟩
theorem Ok.add {l : List (Int × Int)} {lo hi : Int} (h : Ok l) (h1 : 0 < lo) (h2 : lo ≤ hi) (h3 : hi ≤ 1000000) : Ok (addR l lo hi) := by
  obtain ⟨i1, i2⟩ := addR_ok h.1 h1 h2
  refine ⟨i1, fun x hx => ?_⟩
  rcases (i2 x).1 hx with h4 | h4
  · exact h.2 x h4
  · omega
theorem Ok.join {l t : List (Int × Int)} (h : Ok l) (ht : Ok t) : Ok (joinR l t) := by
  obtain ⟨i1, i2⟩ := joinR_ok t l 0 h.1 ht.1
  refine ⟨i1, fun x hx => ?_⟩
  rcases (i2 x).1 hx with h4 | h4
  · exact h.2 x h4
  · exact ht.2 x h4
theorem canon_len : ∀ {l : List (Int × Int)} {b c : Int}, Canon b l → (∀ r ∈ l, r.2 ≤ c) → b ≤ c → (l.length : Int) ≤ c - b
  | [], b, c, _, _, h => by simp; omega
  | r :: l, b, c, h, hm, hc => by
    have h1 := h.1
    have h2 := h.2.1
    have h3 := hm r (by simp)
    cases l with
    | nil => simp; omega
    | cons s l =>
      have h4 := h.2.2.1
      have h5 := h.2.2.2.1
      have h6 := hm s (by simp)
      have := canon_len h.2.2 (fun r hr => hm r (by simp [hr])) (by omega)
      simp only [List.length_cons] at *
      omega
theorem Ok.len {l : List (Int × Int)} (h : Ok l) : l.length ≤ 1000000 := by
  have := canon_len h.1 (fun r hr => (h.at hr).2.2) (by omega)
  omega
end Go.Proofs.Ytdohfjidnbhfnaa.Sp

/- spans.Set[int32] in memory: apart, from, Holds, Has. -/
namespace Go.Proofs.Ytdohfjidnbhfnaa.Sp
open Go Go.RowKit Go.Proofs.Ytdohfjidnbhfnaa.Mem
attribute [local go_sem ↓] Go.wp_at_zero Go.wp_at_succ
set_option linter.unusedSimpArgs false
set_option linter.unusedVariables false

theorem info_run : (Try.prog.info? 84).map (fun i => (i.zero, i.size, i.bytes)) = some (some (.agg #[.int .i32 0, .int .i32 0]), 2, 8) := by kernel_rfl

def runs2 (l : List (Int × Int)) : List Value := l.flatMap fun p => [.int .i32 p.1, .int .i32 p.2]
theorem runs2_cons (p : Int × Int) (l : List (Int × Int)) : runs2 (p :: l) = .int .i32 p.1 :: .int .i32 p.2 :: runs2 l := rfl
theorem runs2_length : ∀ l : List (Int × Int), (runs2 l).length = l.length * 2
  | [] => rfl
  | p :: l => by rw [runs2_cons, List.length_cons, List.length_cons, runs2_length l, List.length_cons]; omega
theorem runs2_append (l l' : List (Int × Int)) : runs2 (l ++ l') = runs2 l ++ runs2 l' := by simp [runs2]
theorem runs2_at : ∀ (l : List (Int × Int)) (j : Nat) (u v : Int), l[j]? = some (u, v) → (runs2 l)[j * 2]? = some (.int .i32 u) ∧ (runs2 l)[j * 2 + 1]? = some (.int .i32 v)
  | [], j, u, v, h => by simp at h
  | p :: l, 0, u, v, h => by
    have : p = (u, v) := by simpa using h
    subst this
    exact ⟨rfl, rfl⟩
  | p :: l, j + 1, u, v, h => by
    have := runs2_at l j u v (by simpa using h)
    rw [runs2_cons, show (j + 1) * 2 = j * 2 + 2 by omega]
    exact this

def RdR (w : World) (A : Option Addr) (l : List (Int × Int)) : Prop :=
  ∀ (j : Nat) (u v : Int), l[j]? = some (u, v) → ∃ b cs, A = some ⟨b, 0, none⟩ ∧ At w b cs 84 ∧ cs[j * 2]? = some (.int .i32 u) ∧ cs[j * 2 + 1]? = some (.int .i32 v)
theorem RdR.nil (w : World) (A : Option Addr) : RdR w A [] := fun j u v h => by simp at h
theorem RdR.kept {p : Nat → Prop} {w w' : World} {A : Option Addr} {l : List (Int × Int)} (h : RdR w A l) (hk : Kpt p w w') (hp : ∀ b cs, At w b cs 84 → ¬ p b) : RdR w' A l := fun j u v hx => by
  obtain ⟨b, cs, h1, h2, h3⟩ := h j u v hx
  exact ⟨b, cs, h1, h2.kept hk (hp b cs h2), h3⟩
theorem RdR.below {w w' : World} {A : Option Addr} {l : List (Int × Int)} (h : RdR w A l) (hb : Below w.heap.size w w') : RdR w' A l :=
  h.kept (Kpt.of_below (p := fun _ => False) hb) fun _ _ _ => id

def SetAt (w : World) (g : Nat) (l : List (Int × Int)) : Prop := ∃ A c, At w g [.slice A l.length c] 108 ∧ RdR w A l
theorem SetAt.lt {w : World} {g : Nat} {l : List (Int × Int)} (h : SetAt w g l) : g < w.heap.size := by
  obtain ⟨_, _, h, _⟩ := h
  exact h.lt
theorem SetAt.kept {p : Nat → Prop} {w w' : World} {g : Nat} {l : List (Int × Int)} (h : SetAt w g l) (hk : Kpt p w w') (hg : ¬ p g) (hp : ∀ b cs, At w b cs 84 → ¬ p b) : SetAt w' g l := by
  obtain ⟨A, c, h1, h2⟩ := h
  exact ⟨A, c, h1.kept hk hg, h2.kept hk hp⟩
theorem SetAt.below {w w' : World} {g : Nat} {l : List (Int × Int)} (h : SetAt w g l) (hb : Below w.heap.size w w') : SetAt w' g l :=
  h.kept (Kpt.of_below (p := fun _ => False) hb) id fun _ _ _ => id
theorem SetAt.drewN {w : World} {g : Nat} {l : List (Int × Int)} (h : SetAt w g l) (k : Nat) : SetAt (w.drewN k) g l := h
theorem SetAt.alloc {w : World} {g : Nat} {l : List (Int × Int)} (h : SetAt w g l) (o : Obj) : SetAt (w.alloc o) g l := h.below ((Below.refl _ _).alloc (Nat.le_refl _) _)
theorem SetAt.beside {w w' : World} {g g' : Nat} {l : List (Int × Int)} {cs : List Value} (h : SetAt w g l) (hk : Kpt (· = g') w w') (h' : At w g' cs 108) (hne : g ≠ g') : SetAt w' g l :=
  h.kept hk hne fun b cs' hb => hb.not h' (by decide)

theorem new_calls (w : World) : Calls Try.prog 47 #[] w fun e w' => e = .returned (.pointer (some ⟨w.heap.size, 0, none⟩)) ∧ w' = w.alloc (.cells #[.slice none 0 0] 108) := by
  go_enter Try.func47, Try.ntmps47
  go_wp2
  go_ret
  exact ⟨rfl, rfl⟩
theorem new_set (w : World) : SetAt (w.alloc (.cells #[.slice none 0 0] 108)) w.heap.size [] := ⟨none, 0, At.made rfl rfl, RdR.nil _ _⟩

set_option maxHeartbeats 4000000 in
theorem apart_calls (w : World) (a b c d : Int) (h1 : 0 ≤ b) (h2 : b ≤ 1000000) : Calls Try.prog 54 #[.agg #[.int .i32 a, .int .i32 b], .agg #[.int .i32 c, .int .i32 d]] w fun e w' => e = .returned (.bool (decide (b + 1 < c))) ∧ Below w.heap.size w w' := by
  by_cases hc : b < c
  · have h3 : decide (b < c) = true := by simpa using hc
    clear hc
    go_enter Try.func54, Try.ntmps54
    go_wp2
    go_ret
    exact ⟨rfl, ((Below.refl _ _).alloc (Nat.le_refl _) _).alloc (by simp) _⟩
  · have h3 : decide (b < c) = false := by simpa using hc
    have h4 : decide (b + 1 < c) = false := by simp; omega
    have H4 := Lib.hid h4
    clear hc h4
    go_enter Try.func54, Try.ntmps54
    go_wp2
    go_ret
    exact ⟨by rw [H4.out]; rfl, ((Below.refl _ _).alloc (Nat.le_refl _) _).alloc (by simp) _⟩

set_option maxHeartbeats 4000000 in
theorem cmp_calls (w : World) (bs bx g i : Nat) (x u v : Int) (l : List (Int × Int)) (hs : At w bs [.pointer (some ⟨g, 0, none⟩)] 60) (hx : At w bx [.int .i32 x] 21) (hS : SetAt w g l) (hi : l[i]? = some (u, v)) (hl : l.length ≤ 1000000) :
    Calls Try.prog 79 #[.int .i64 (i : Int), .pointer (some ⟨bs, 0, none⟩), .pointer (some ⟨bx, 0, none⟩)] w fun e w' => e = .returned (.bool (decide (v ≥ x))) ∧ ∃ q, w' = w.drewN q := by
  obtain ⟨A, c, hg, hr⟩ := hS
  obtain ⟨b, cs, rfl, hb, _, hv⟩ := hr i u v hi
  have c1 := hs.cell 0 rfl
  have c2 := hx.cell 0 rfl
  have c3 := hg.cell 0 rfl
  have c4 := hb.cell _ hv
  have hlt : i < l.length := (List.getElem?_eq_some_iff.1 hi).1
  obtain ⟨n, hn⟩ : ∃ n, l.length = n := ⟨_, rfl⟩
  rw [hn] at hl hlt c3
  have i0 : (0 : Int) ≤ (i : Int) := by omega
  have i1 : (i : Int) < (n : Int) := by omega
  have i2 : (n : Int) ≤ 1000000 := by omega
  clear hs hx hg hr hb hv hi hn
  go_enter Try.func79, Try.ntmps79
  go_wp2
  go_quiet (fail)
  go_wp2
  go_ret
  exact ⟨rfl, _, rfl⟩

end Go.Proofs.Ytdohfjidnbhfnaa.Sp

/- spans.Set[int32]: from, Holds, Has. -/
namespace Go.Proofs.Ytdohfjidnbhfnaa.Sp
open Go Go.RowKit Go.Proofs.Ytdohfjidnbhfnaa.Mem
attribute [local go_sem ↓] Go.wp_at_zero Go.wp_at_succ
set_option linter.unusedSimpArgs false
set_option linter.unusedVariables false

def SRel (w : World) (l : List (Int × Int)) (x : Int) (kq : Nat) (v5 v6 : Value) (w' : World) : Prop :=
  ∃ i j : Nat, v5 = .int .i64 (i : Int) ∧ v6 = .int .i64 (j : Int) ∧ i ≤ fromS l x ∧ fromS l x ≤ j ∧ j ≤ l.length ∧ kq = j - i ∧ ∃ q, w' = w.drewN q

set_option maxHeartbeats 4000000 in
theorem search_calls (w : World) (bs bx g : Nat) (x : Int) (l : List (Int × Int)) (hs : At w bs [.pointer (some ⟨g, 0, none⟩)] 60) (hx : At w bx [.int .i32 x] 21) (hS : SetAt w g l) (hl : Ok l) :
    Calls Try.prog 78 #[.int .i64 (l.length : Int), .func (.func 79) #[] #[.pointer (some ⟨bs, 0, none⟩), .pointer (some ⟨bx, 0, none⟩)]] w fun e w' => e = .returned (.int .i64 (fromS l x : Int)) ∧ ∃ q, w' = w.drewN q := by
  have hll := hl.len
  have HC := Lib.hid (fun (q i : Nat) (u v : Int) (hi : l[i]? = some (u, v)) => cmp_calls (w.drewN q) bs bx g i x u v l hs hx hS hi hll)
  have HF := Lib.hid (fun (i : Nat) (r : Int × Int) (h : l[i]? = some r) => fromS_spec (x := x) hl.1 i r h)
  have h0 : Hid (SRel w l x l.length (.int .i64 0) (.int .i64 (l.length : Int)) w) := Lib.hid ⟨0, l.length, rfl, rfl, Nat.zero_le _, fromS_le _ _, Nat.le_refl _, rfl, 0, rfl⟩
  clear hs hx hS hl
  go_enter Try.func78, Try.ntmps78
  go_wp2
  go_loopg [5, 6] l.length (fun kq v5 v6 w' => Hid (SRel w l x kq v5 v6 w'))
  case atStart => exact h0
  case round =>
    clear h0
    obtain ⟨i, j, rfl, rfl, h1, h2, h3, h4, q, rfl⟩ := hrel.out
    clear hrel
    by_cases hij : i < j
    · obtain ⟨h, hh⟩ : ∃ h, (i + j) / 2 = h := ⟨_, rfl⟩
      have hlt : h < l.length := by omega
      obtain ⟨⟨u, v⟩, huv⟩ : ∃ r, l[h]? = some r := ⟨_, List.getElem?_eq_getElem hlt⟩
      have i0 : (i : Int) < (j : Int) := by omega
      have i1 : (0 : Int) ≤ (i : Int) := by omega
      have i2 : (j : Int) ≤ 1000000 := by omega
      have hc := HC.out q h u v huv
      have hf := HF.out h _ huv
      have HX := Lib.hid (And.intro h1 (And.intro h2 (And.intro h3 (And.intro h4 (And.intro hh hlt)))))
      have HCC := Lib.hid hc
      have HFF := Lib.hid hf
      clear h1 h2 h3 h4 hh hlt huv hc hf
      have e1 : ((i : Int) + (j : Int)) / 2 = (h : Int) := by have := HX.out; omega
      go_upto_region 4 with (fail)
      clear e1
      go_wp2_with fail
      refine HCC.out.mono ?_
      rintro e w1 ⟨rfl, q1, rfl⟩
      clear HC HCC HF
      by_cases hv : x ≤ v
      · have e2 : decide (v ≥ x) = true := by simpa using hv
        have HV := Lib.hid hv
        clear hv
        go_wp2_with fail
        go_roundg (h - i)
        case measure => have := HX.out; omega
        case rel =>
          have h1 := HX.out
          have h2 := HFF.out.1 HV.out
          exact Lib.hid ⟨i, h, rfl, rfl, by omega, by omega, by omega, rfl, q + q1, by simp [World.drewN, Nat.add_assoc]⟩
      · have e2 : decide (v ≥ x) = false := by simpa using hv
        have HV := Lib.hid hv
        clear hv
        have i3 : (0 : Int) ≤ (h : Int) := by omega
        have i4 : (h : Int) ≤ 1000000 := by have := HX.out; omega
        go_wp2_with fail
        go_roundg (j - (h + 1))
        case measure => have := HX.out; omega
        case rel =>
          have h1 := HX.out
          have h2 : ¬ fromS l x ≤ h := fun h3 => absurd (HFF.out.2 h3) (by have := HV.out; omega)
          exact Lib.hid ⟨h + 1, j, by go_num, rfl, by omega, by omega, by omega, rfl, q + q1, by simp [World.drewN, Nat.add_assoc]⟩
    · have i0 : (j : Int) ≤ (i : Int) := by omega
      have e1 : i = fromS l x := by omega
      have E1 := Lib.hid e1
      clear e1 h1 h2 h3 h4 hij
      go_wp2_with fail
      go_ret
      exact ⟨by rw [← E1.out]; rfl, q, rfl⟩

set_option maxHeartbeats 4000000 in
theorem from_calls (w : World) (g : Nat) (x : Int) (l : List (Int × Int)) (hS : SetAt w g l) (hl : Ok l) :
    Calls Try.prog 65 #[.pointer (some ⟨g, 0, none⟩), .int .i32 x] w fun e w' => e = .returned (.int .i64 (fromS l x : Int)) ∧ Below w.heap.size w w' := by
  have hg := hS.lt
  have q0 := Nat.ne_of_lt hg
  have q1 : g ≠ w.heap.size + 1 := by omega
  obtain ⟨A, c, hat, _⟩ := id hS
  have c3 := hat.cell 0 rfl
  have HS := Lib.hid (And.intro hS hl)
  clear hS hl hat
  go_enter Try.func65, Try.ntmps65
  go_wp2_with fail
  refine (search_calls _ w.heap.size (w.heap.size + 1) g x l ?_ ?_ ((HS.out.1.alloc _).alloc _) HS.out.2).mono ?_
  · exact (At.made rfl rfl).al
  · exact At.made (by simp) rfl
  rintro e w1 ⟨rfl, q, rfl⟩
  go_wp2_with fail
  go_ret
  exact ⟨rfl, Below.drN (((Below.refl _ _).alloc (Nat.le_refl _) _).alloc (by simp) _) _⟩

set_option maxHeartbeats 8000000 in
theorem holds_calls (w : World) (g : Nat) (lo hi : Int) (l : List (Int × Int)) (hS : SetAt w g l) (hl : Ok l) :
    Calls Try.prog 48 #[.pointer (some ⟨g, 0, none⟩), .int .i32 lo, .int .i32 hi] w fun e w' => e = .returned (.bool (holdsB l lo hi)) ∧ Below w.heap.size w w' := by
  obtain ⟨an, han⟩ : ∃ an, holdsB l lo hi = an := ⟨_, rfl⟩
  rw [han]
  by_cases h1 : hi < lo
  · rw [holdsB, if_pos h1] at han
    subst han
    clear hS hl
    go_enter Try.func48, Try.ntmps48
    go_wp2
    go_ret
    exact ⟨rfl, Below.refl _ _⟩
  · rw [holdsB, if_neg h1] at han
    have h2 : decide (hi < lo) = false := by simpa using h1
    have hfr := from_calls w g lo l hS hl
    have hln := hl.len
    have hfl := fromS_le l lo
    obtain ⟨k, hk⟩ : ∃ k, fromS l lo = k := ⟨_, rfl⟩
    rw [hk] at han hfr hfl
    have HX := Lib.hid (And.intro hS han)
    have HFR := Lib.hid hfr
    clear hS hl han hk hfr h1
    go_enter Try.func48, Try.ntmps48
    go_wp2_with fail
    refine HFR.out.mono ?_
    rintro e w1 ⟨rfl, hb⟩
    obtain ⟨A, c, hat, hr⟩ := HX.out.1.below hb
    have han := HX.out.2
    have c0 := hat.cell 0 rfl
    have HB := Lib.hid hb
    obtain ⟨n, hn⟩ : ∃ n, l.length = n := ⟨_, rfl⟩
    have i0 : (0 : Int) ≤ (k : Int) := by omega
    have i2 : (n : Int) ≤ 1000000 := by omega
    by_cases hkn : k < l.length
    · obtain ⟨⟨u, v⟩, huv⟩ : ∃ r, l[k]? = some r := ⟨_, List.getElem?_eq_getElem hkn⟩
      obtain ⟨b, cs, rfl, hbb, hu, hv⟩ := hr k u v huv
      rw [huv] at han
      dsimp only at han
      have cu := hbb.cell _ hu
      have cv := hbb.cell _ hv
      have i1 : (k : Int) < (n : Int) := by omega
      have e3 : decide ((k : Int) < (n : Int)) = true := by simpa using i1
      rw [hn] at c0
      have HAN := Lib.hid han
      clear han hat hr hb hbb hu hv huv hkn hn hln hfl HX HFR
      by_cases g1 : u ≤ lo
      · have e1 : decide (u ≤ lo) = true := by simpa using g1
        have HG := Lib.hid g1
        clear g1
        go_wp2
        go_ret
        exact ⟨by rw [← HAN.out, decide_eq_true HG.out]; rfl, HB.out⟩
      · have e1 : decide (u ≤ lo) = false := by simpa using g1
        have HG := Lib.hid g1
        clear g1
        go_wp2
        go_ret
        exact ⟨by rw [← HAN.out, decide_eq_false (by simpa using HG.out)]; rfl, HB.out⟩
    · rw [List.getElem?_eq_none (by omega)] at han
      dsimp only at han
      have i1 : (n : Int) ≤ (k : Int) := by omega
      have e3 : decide ((k : Int) < (n : Int)) = false := by simpa using i1
      rw [hn] at c0
      subst han
      clear hat hr hb hkn hn hln hfl HX HFR
      go_wp2
      go_ret
      exact ⟨rfl, HB.out⟩

theorem has_calls (w : World) (g : Nat) (x : Int) (l : List (Int × Int)) (hS : SetAt w g l) (hl : Ok l) :
    Calls Try.prog 29 #[.pointer (some ⟨g, 0, none⟩), .int .i32 x] w fun e w' => e = .returned (.bool (holdsB l x x)) ∧ Below w.heap.size w w' := by
  have HH := Lib.hid (holds_calls w g x x l hS hl)
  clear hS hl
  go_enter Try.func29, Try.ntmps29
  go_wp2_with fail
  refine HH.out.mono ?_
  rintro e w1 ⟨rfl, hb⟩
  have HB := Lib.hid hb
  clear hb
  go_wp2
  go_ret
  exact ⟨rfl, HB.out⟩

end Go.Proofs.Ytdohfjidnbhfnaa.Sp
