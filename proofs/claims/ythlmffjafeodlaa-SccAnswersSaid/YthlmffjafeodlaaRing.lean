/- Plain laws on places, and a ring through all vertices: one component. -/
import Derived.Test.YthlmffjafeodlaaLw4
namespace Go.Proofs.Ythlmffjafeodlaa.Tj
open Go.Proofs.Ythlmffjafeodlaa.Sl Go.Proofs.Ythlmffjafeodlaa.Lw
set_option linter.unusedVariables false

theorem place_at : ∀ (sl : List Int) (x : Nat), sl.Pairwise (· < ·) → ∀ h : x < sl.length, place sl sl[x] = x
  | [], x, _, h => by simp at h
  | a :: r, 0, hs, h => by
    have h1 := (List.pairwise_cons.1 hs).1
    unfold place
    rw [List.getElem_cons_zero, List.countP_cons_of_neg (by simp), List.countP_eq_zero]
    intro b hb
    have := h1 b hb
    simp
    omega
  | a :: r, x + 1, hs, h => by
    have h1 := List.pairwise_cons.1 hs
    have hx : x < r.length := by simpa using h
    have := place_at r x h1.2 hx
    unfold place at *
    rw [List.getElem_cons_succ, List.countP_cons_of_pos (by simpa using h1.1 _ (List.getElem_mem hx)), this]

theorem lt_of_nodup {sl : List Int} (hs : sl.Pairwise (· ≤ ·)) (hd : sl.Nodup) : sl.Pairwise (· < ·) := by
  rw [List.nodup_iff_pairwise_ne] at hd
  exact (hs.and hd).imp fun h => by omega

theorem mem_place {sl : List Int} (hs : sl.Pairwise (· < ·)) {x : Int} (h : x ∈ sl) : ∃ i, ∃ hi : i < sl.length, sl[i] = x ∧ place sl x = i := by
  obtain ⟨i, hi, he⟩ := List.getElem_of_mem h
  exact ⟨i, hi, he, he ▸ place_at sl i hs hi⟩
theorem place_lt {sl : List Int} (hs : sl.Pairwise (· < ·)) {x : Int} (h : x ∈ sl) : place sl x < sl.length := by
  obtain ⟨i, hi, _, e⟩ := mem_place hs h
  omega

theorem codeV_zero {sl : List Int} {arcs : List (Int × Int)} (h : codeV sl arcs = 0) : sl.Nodup ∧ good sl arcs = true := by
  unfold codeV at h
  split at h
  · rename_i hd
    cases hg : good sl arcs with
    | true => exact ⟨hd, rfl⟩
    | false => rw [hg] at h; simp at h
  · simp at h

/-- The first j arcs of the ring. -/
def ringA (L : List Int) (j : Nat) : List (Int × Int) := (List.range j).map fun i => (L.getD i 0, L.getD ((i + 1) % L.length) 0)
theorem ringA_succ (L : List Int) (j : Nat) : ringA L (j + 1) = ringA L j ++ [(L.getD j 0, L.getD ((j + 1) % L.length) 0)] := by
  simp [ringA, List.range_succ]
theorem ringA_length (L : List Int) (j : Nat) : (ringA L j).length = j := by simp [ringA]

theorem all_zero : ∀ (comp : List Nat) (m : Nat), fo comp 0 = some m → comp ≠ [] → (∀ x y, x < comp.length → y < comp.length → comp.getD x 0 = comp.getD y 0) → m = 1 ∧ ∀ c ∈ comp, c = 0
  | [], _, _, h, _ => absurd rfl h
  | c :: r, m, h, _, he => by
    have hc : c = 0 := by
      rw [fo] at h
      split at h
      · omega
      · split at h
        · assumption
        · cases h
    subst hc
    have hall : ∀ c ∈ r, c = 0 := by
      intro c hc
      obtain ⟨i, hi, hci⟩ := List.getElem_of_mem hc
      have := he (i + 1) 0 (by simpa using hi) (by simp)
      simp [List.getD_eq_getElem?_getD, List.getElem?_eq_getElem hi, hci] at this
      exact this
    have h1 : ∀ (r : List Nat), (∀ c ∈ r, c = 0) → fo r 1 = some 1 := by
      intro r
      induction r with
      | nil => intro _; rfl
      | cons a s ih =>
        intro hz
        obtain rfl := hz a List.mem_cons_self
        rw [fo, if_pos (by omega)]
        exact ih fun c hc => hz c (List.mem_cons.2 (.inr hc))
    rw [fo, if_neg (by omega), if_pos rfl, h1 r hall] at h
    cases h
    exact ⟨rfl, fun c hc => (List.mem_cons.1 hc).elim id (hall c)⟩

theorem grpZ_all : ∀ (comp : List Nat) (sl : List Int), comp.length = sl.length → (∀ c ∈ comp, c = 0) → grpZ comp sl 0 = sl
  | [], [], _, _ => rfl
  | [], _ :: _, h, _ => by simp at h
  | _ :: _, [], h, _ => by simp at h
  | c :: r, x :: s, h, hz => by
    obtain rfl := hz c List.mem_cons_self
    have := grpZ_all r s (by simpa using h) fun c hc => hz c (List.mem_cons.2 (.inr hc))
    unfold grpZ at *
    rw [List.zip_cons_cons, List.filter_cons_of_pos (by simp), List.map_cons, this]

theorem ring_plain (L : List Int) (R : List (Int × Int)) (hL : L.length ≤ 60) (hR : R.length ≤ 240) (hne : L ≠ []) (hc : codeV (sorted L) R = 0) :
    ofS L (R ++ ringA L L.length) (sorted L) 1000 = some (0, [sorted L]) ∧ orderS L (R ++ ringA L L.length) (sorted L) 1000 = some (0, [(sorted L).headD 0]) ∧ acyS L (R ++ ringA L L.length) (sorted L) 1000 = some (0, false) := by
  obtain ⟨hd, hg⟩ := codeV_zero hc
  have hl := sorted_length L
  have hs := sorted_rising L
  have hlt := lt_of_nodup hs hd
  have hp : ∀ x, x ∈ sorted L ↔ x ∈ L := fun x => (List.mergeSort_perm L _).mem_iff
  have hn : 0 < L.length := List.length_pos_iff.2 hne
  have hmem : ∀ i, i < L.length → L.getD i 0 ∈ L := fun i hi => by
    rw [List.getD_eq_getElem?_getD, List.getElem?_eq_getElem hi]
    exact List.getElem_mem hi
  have hg2 : good (sorted L) (R ++ ringA L L.length) = true := by
    rw [good_iff]
    intro p hpm
    rcases List.mem_append.1 hpm with h | h
    · exact good_iff.1 hg p h
    · simp only [ringA, List.mem_map, List.mem_range] at h
      obtain ⟨i, hi, rfl⟩ := h
      exact ⟨by simpa using (hp _).2 (hmem i hi), by simpa using (hp _).2 (hmem _ (Nat.mod_lt _ hn))⟩
  have hcode : codeV (sorted L) (R ++ ringA L L.length) = 0 := by unfold codeV; rw [if_pos hd, if_pos hg2]
  have hedge : ∀ i, i < L.length → PE (sorted L) (R ++ ringA L L.length) (place (sorted L) (L.getD i 0)) (place (sorted L) (L.getD ((i + 1) % L.length) 0)) := fun i hi =>
    ⟨_, List.mem_append.2 (.inr (by simp only [ringA, List.mem_map, List.mem_range]; exact ⟨i, hi, rfl⟩)), rfl, rfl⟩
  have hfrom : ∀ i, i < L.length → Rch (PE (sorted L) (R ++ ringA L L.length)) (place (sorted L) (L.getD 0 0)) (place (sorted L) (L.getD i 0)) := by
    intro i
    induction i with
    | zero => intro _; exact .refl _
    | succ i ih =>
      intro hi
      have he := hedge i (by omega)
      rw [Nat.mod_eq_of_lt hi] at he
      exact .step (ih (by omega)) he
  have hto : ∀ k i, i + k + 1 = L.length → Rch (PE (sorted L) (R ++ ringA L L.length)) (place (sorted L) (L.getD i 0)) (place (sorted L) (L.getD 0 0)) := by
    intro k
    induction k with
    | zero =>
      intro i hi
      have he := hedge i (by omega)
      rw [show i + 1 = L.length by omega, Nat.mod_self] at he
      exact .step (.refl _) he
    | succ k ih =>
      intro i hi
      have he := hedge i (by omega)
      rw [Nat.mod_eq_of_lt (by omega)] at he
      exact Rch.head he (ih (i + 1) (by omega))
  have hall : ∀ x y, x < L.length → y < L.length → Rch (PE (sorted L) (R ++ ringA L L.length)) x y := by
    have key : ∀ x, x < L.length → ∃ i, i < L.length ∧ place (sorted L) (L.getD i 0) = x := by
      intro x hx
      have hxs : x < (sorted L).length := by omega
      have hm : (sorted L)[x] ∈ L := (hp _).1 (List.getElem_mem hxs)
      obtain ⟨i, hi, he⟩ := List.getElem_of_mem hm
      refine ⟨i, hi, ?_⟩
      rw [List.getD_eq_getElem?_getD, List.getElem?_eq_getElem hi, Option.getD_some, he]
      exact place_at _ x hlt hxs
    intro x y hx hy
    obtain ⟨i, hi, rfl⟩ := key x hx
    obtain ⟨j, hj, rfl⟩ := key y hy
    exact (hto (L.length - 1 - i) i (by omega)).trans (hfrom j hj)
  have hlen : L.length + (R ++ ringA L L.length).length < 1000 := by rw [List.length_append, ringA_length]; omega
  have hcomp : ∀ comp m, CompOf L.length (PE (sorted L) (R ++ ringA L L.length)) comp m → m = 1 ∧ (∀ c ∈ comp, c = 0) ∧ comp.length = L.length := by
    intro comp m h
    have h1 := h.1
    obtain ⟨a, b⟩ := all_zero comp m h.2.1 (by intro e; rw [e] at h1; simp at h1; omega) fun x y hx hy => (h.2.2 x y (by omega) (by omega)).2 ⟨hall x y (by omega) (by omega), hall y x (by omega) (by omega)⟩
    exact ⟨a, b, h1⟩
  refine ⟨?_, ?_, ?_⟩
  · obtain ⟨ls, h1, _, h3⟩ := ofS_ends (l := L) (arcs := R ++ ringA L L.length) (k := 1000) hl hs (by omega) hlen
    obtain ⟨comp, m, hco, rfl⟩ := h3 hcode
    obtain ⟨rfl, hz, hcl⟩ := hcomp comp m hco
    rw [h1, hcode]
    have : ofL comp (sorted L) 1 = [sorted L] := by
      show [grpZ comp (sorted L) 0] = _
      rw [grpZ_all comp _ (by omega) hz]
    rw [this]
  · obtain ⟨ts, h1, _, h3⟩ := orderS_ends (l := L) (arcs := R ++ ringA L L.length) (k := 1000) hl hs (by omega) (by rw [List.length_append, ringA_length]; omega) hlen
    obtain ⟨comp, m, F, hco, hF, rfl⟩ := h3 hcode
    obtain ⟨rfl, hz, hcl⟩ := hcomp comp m hco
    rw [h1, hcode]
    have hF1 : F = [0] := by
      have h2 := hF.2.2
      match F, h2, hF with
      | [c], _, hF =>
        have := (hF.1 [] c [] rfl).1
        obtain rfl : c = 0 := by omega
        rfl
    rw [hF1]
    show some (0, [(grpZ comp (sorted L) 0).headD 0]) = _
    rw [grpZ_all comp _ (by omega) hz]
  · obtain ⟨b, h1, _, h3⟩ := acyS_ends (l := L) (arcs := R ++ ringA L L.length) (k := 1000) hl hs (by omega) hlen
    obtain ⟨comp, m, hco, rfl⟩ := h3 hcode
    obtain ⟨rfl, hz, hcl⟩ := hcomp comp m hco
    rw [h1, hcode]
    have : acyB (R ++ ringA L L.length) 1 L.length = false := by
      unfold acyB
      split
      · rename_i ha
        rw [decide_eq_false_iff_not]
        intro h1
        have hm : (L.getD 0 0, L.getD ((0 + 1) % L.length) 0) ∈ R ++ ringA L L.length := List.mem_append.2 (.inr (by simp only [ringA, List.mem_map, List.mem_range]; exact ⟨0, hn, rfl⟩))
        have := List.all_eq_true.1 ha _ hm
        rw [← h1] at this
        simp at this
      · rfl
    rw [this]

end Go.Proofs.Ythlmffjafeodlaa.Tj
