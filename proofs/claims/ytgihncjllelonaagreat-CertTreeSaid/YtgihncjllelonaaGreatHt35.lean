/- Plain: the costs of walks; distances are unique; lowering along edges. -/
import Derived.Test.YtgihncjllelonaaGreatHt32
import Derived.Test.YtgihncjllelonaaGreatHt15
import Derived.Test.YtgihncjllelonaaGreatHt12
import Derived.Test.YtgihncjllelonaaGreatHt25
import Derived.Test.YtgihncjllelonaaGreatHt5
import Derived.Test.YtgihncjllelonaaGreatHt33
import Derived.Test.YtgihncjllelonaaGreatHt34
namespace Go.Proofs.YtgihncjllelonaaGreat.Ce
set_option linter.unusedSimpArgs false
set_option linter.unusedVariables false
open Go Go.RowKit Go.Proofs.YtgihncjllelonaaGreat.Mem Go.Proofs.YtgihncjllelonaaGreat.Tj Go.Proofs.YtgihncjllelonaaGreat.Tb Go.Proofs.YtgihncjllelonaaGreat.Wt Go.Proofs.YtgihncjllelonaaGreat.Scc Go.Proofs.YtgihncjllelonaaGreat.Lw

inductive Wk (es : List Ed) (s : Int) : Int → Nat → Prop
  | nil : Wk es s s 0
  | step {u : Int} {c : Nat} {e v : Int} {b : Nat} : Wk es s u c → (e, u, v, b) ∈ es → b < 4294967296 → Wk es s v (add32 c b)
theorem Wk.le {es : List Ed} {s v : Int} {c : Nat} (h : Wk es s v c) : c ≤ 2139095040 := by
  induction h with
  | nil => omega
  | step _ _ hb ih => exact (add32_some (by omega) hb).2
structure IsD (es : List Ed) (s : Int) (f : Int → Option Nat) : Prop where
  src : f s = some 0
  walk : ∀ v c, f v = some c → Wk es s v c
  shut : ∀ p ∈ es, ∀ c, f p.2.1 = some c → ∃ d, f p.2.2.1 = some d ∧ d ≤ add32 c p.2.2.2
theorem IsD.least {es : List Ed} {s : Int} {f : Int → Option Nat} (h : IsD es s f) {v : Int} {c : Nat} (hw : Wk es s v c) : ∃ d, f v = some d ∧ d ≤ c := by
  induction hw with
  | nil => exact ⟨0, h.src, Nat.le_refl _⟩
  | @step u c e v b hw' hm hb ih =>
    obtain ⟨d, hd, hle⟩ := ih
    obtain ⟨d', hd', hle'⟩ := h.shut _ hm d hd
    exact ⟨d', hd', Nat.le_trans hle' (add32_mono hle hw'.le hb)⟩
theorem IsD.one {es : List Ed} {s : Int} {f g : Int → Option Nat} (hf : IsD es s f) (hg : IsD es s g) (v : Int) : f v = g v := by
  have h1 : ∀ {f g : Int → Option Nat}, IsD es s f → IsD es s g → ∀ c, f v = some c → ∃ d, g v = some d ∧ d ≤ c := fun hf hg c hc => hg.least (hf.walk v c hc)
  cases hv : f v with
  | none =>
    cases hv' : g v with
    | none => rfl
    | some d =>
      obtain ⟨c, hc, _⟩ := h1 hg hf d hv'
      rw [hv] at hc
      cases hc
  | some c =>
    obtain ⟨d, hd, h2⟩ := h1 hf hg c hv
    obtain ⟨c', hc', h3⟩ := h1 hg hf d hd
    rw [hv] at hc'
    cases hc'
    rw [hd, Nat.le_antisymm h2 h3]

def FAR : Nat := 4294967295
structure SndD (sl : List Int) (es : List Ed) (s : Int) (d : List Nat) : Prop where
  src : d[place sl s]? = some 0
  walk : ∀ (x : Nat) (v : Int) (c : Nat), sl[x]? = some v → d[x]? = some c → c ≠ FAR → Wk es s v c
  far : ∀ (x c : Nat), d[x]? = some c → c ≤ FAR
def ClsD (sl : List Int) (es : List Ed) (k : Nat) (d : List Nat) : Prop := ∀ p ∈ es.take k, ∀ a b : Nat, d[place sl p.2.1]? = some a → d[place sl p.2.2.1]? = some b → a ≠ FAR → b ≤ add32 a p.2.2.2
theorem sum_set_lt : ∀ (l : List Nat) (i x y : Nat), l[i]? = some y → x < y → (l.set i x).sum < l.sum
  | [], i, x, y, h, _ => by simp at h
  | b :: r, 0, x, y, h, hl => by
    have : b = y := by simpa using h
    subst this
    simp
    omega
  | b :: r, i + 1, x, y, h, hl => by
    have := sum_set_lt r i x y (by simpa using h) hl
    simp only [List.set_cons_succ, List.sum_cons]
    omega
structure PassD (sl : List Int) (es : List Ed) (s : Int) (k : Nat) (d0 d : List Nat) (again : Bool) : Prop where
  snd : SndD sl es s d
  len : d.length = d0.length
  no : again = false → d = d0 ∧ ClsD sl es k d
  yes : again = true → d.sum < d0.sum
section
variable {sl : List Int} {es : List Ed} {s e u v : Int} {k b : Nat} {d0 d : List Nat} {again : Bool}
theorem PassD.keep (h : PassD sl es s k d0 d again) (hx : es[k]? = some (e, u, v, b)) (hk : ∀ x y : Nat, d[place sl u]? = some x → d[place sl v]? = some y → x ≠ FAR → y ≤ add32 x b) : PassD sl es s (k + 1) d0 d again := by
  refine ⟨h.snd, h.len, fun ha => ⟨(h.no ha).1, fun p hp => ?_⟩, h.yes⟩
  rw [List.take_add_one, hx] at hp
  rcases List.mem_append.1 hp with hp | hp
  · exact (h.no ha).2 p hp
  · have : p = (e, u, v, b) := by simpa using hp
    subst this
    exact hk
theorem PassD.turn (h : PassD sl es s k d0 d again) (hs : sl.Pairwise (· < ·)) (hu : u ∈ sl) (hb : b < 4294967296) (hx : es[k]? = some (e, u, v, b)) {x y : Nat} (hux : d[place sl u]? = some x) (hvy : d[place sl v]? = some y) (hf : x ≠ FAR) (hl : add32 x b < y) (hv : sl[place sl v]? = some v) : PassD sl es s (k + 1) d0 (d.set (place sl v) (add32 x b)) true := by
  have hlt := sum_set_lt d (place sl v) (add32 x b) y hvy hl
  have hul := place_lt hs hu
  have hus : sl[place sl u]? = some u := by
    obtain ⟨i, hi, rfl⟩ := List.getElem_of_mem hu
    rw [place_at sl i hs hi]
    exact List.getElem?_eq_getElem hi
  have hw : Wk es s v (add32 x b) := .step (h.snd.walk _ _ _ hus hux hf) (List.mem_of_getElem? hx) hb
  refine ⟨⟨?_, fun i a c ha hc hcf => ?_, fun i c hc => ?_⟩, by rw [List.length_set]; exact h.len, fun ha => (by cases ha), fun _ => ?_⟩
  · by_cases he : place sl v = place sl s
    · rw [he] at hvy
      rw [h.snd.src] at hvy
      cases hvy
      omega
    · rw [List.getElem?_set_ne he]
      exact h.snd.src
  · by_cases he : place sl v = i
    · subst he
      rw [hv] at ha
      cases ha
      rw [List.getElem?_set_self (List.getElem?_eq_some_iff.1 hvy).1] at hc
      cases hc
      exact hw
    · rw [List.getElem?_set_ne he] at hc
      exact h.snd.walk _ _ _ ha hc hcf
  · by_cases he : place sl v = i
    · subst he
      rw [List.getElem?_set_self (List.getElem?_eq_some_iff.1 hvy).1] at hc
      cases hc
      have := hw.le
      unfold FAR
      omega
    · rw [List.getElem?_set_ne he] at hc
      exact h.snd.far _ _ hc
  · cases again with
    | true => have := h.yes rfl; omega
    | false => have := (h.no rfl).1; rw [this] at hlt; rw [this]; exact hlt
end
def dAt (sl : List Int) (d : List Nat) (v : Int) : Option Nat := if v ∈ sl then (d[place sl v]?).filter (fun c => c != FAR) else none
theorem dAt_some {sl : List Int} {d : List Nat} {v : Int} {c : Nat} : dAt sl d v = some c ↔ v ∈ sl ∧ d[place sl v]? = some c ∧ c ≠ FAR := by
  unfold dAt
  by_cases h : v ∈ sl
  · rw [if_pos h, Option.filter_eq_some_iff]
    simp [h]
  · rw [if_neg h]
    simp [h]
theorem isD_of {sl : List Int} {es : List Ed} {s : Int} {d : List Nat} (hs : sl.Pairwise (· < ·)) (hm : s ∈ sl) (he : ∀ p ∈ es, p.2.1 ∈ sl ∧ p.2.2.1 ∈ sl) (hn : d.length = sl.length) (h : SndD sl es s d) (hc : ClsD sl es es.length d) (hb : ∀ p ∈ es, p.2.2.2 < 4294967296) : IsD es s (dAt sl d) := by
  refine ⟨dAt_some.2 ⟨hm, h.src, by decide⟩, fun v c hv => ?_, fun p hp c hv => ?_⟩
  · obtain ⟨h1, h2, h3⟩ := dAt_some.1 hv
    refine h.walk _ _ _ ?_ h2 h3
    obtain ⟨i, hi, rfl⟩ := List.getElem_of_mem h1
    rw [place_at sl i hs hi]
    exact List.getElem?_eq_getElem hi
  · obtain ⟨h1, h2, h3⟩ := dAt_some.1 hv
    have hl := place_lt hs (he p hp).2
    have hd : d[place sl p.2.2.1]? = some d[place sl p.2.2.1] := List.getElem?_eq_getElem (by omega)
    have hle := hc p (by rw [List.take_length]; exact hp) _ _ h2 hd h3
    refine ⟨_, dAt_some.2 ⟨(he p hp).2, hd, fun hf => ?_⟩, hle⟩
    have hcl : c ≤ FAR := h.far _ _ h2
    have := (add32_some (a := c) (b := p.2.2.2) (by unfold FAR at hcl; omega) (hb p hp)).2
    rw [hf] at hle
    unfold FAR at hle
    omega
end Go.Proofs.YtgihncjllelonaaGreat.Ce

/- brambleref13: Dists walked. -/
namespace Go.Proofs.YtgihncjllelonaaGreat.Ce
open Go Go.RowKit Go.MapKept Go.Proofs.YtgihncjllelonaaGreat.Mem Go.Proofs.YtgihncjllelonaaGreat.Sl Go.Proofs.YtgihncjllelonaaGreat.Lw Go.Proofs.YtgihncjllelonaaGreat.Wt Go.Proofs.YtgihncjllelonaaGreat.Tb Go.Proofs.YtgihncjllelonaaGreat.Scc Go.Proofs.YtgihncjllelonaaGreat.Tj Go.Proofs.YtgihncjllelonaaGreatW.PrintWords Go.Proofs.YtgihncjllelonaaGreatW.PrintLast
attribute [local go_sem ↓] Go.wp_at_zero Go.wp_at_succ
set_option linter.unusedSimpArgs false
set_option linter.unusedVariables false

def u32s (l : List Nat) : List Value := l.map fun (x : Nat) => .int .u32 (x : Int)
theorem u32s_length (l : List Nat) : (u32s l).length = l.length := by simp [u32s]
theorem u32s_set (l : List Nat) (i x : Nat) : (u32s l).set i (.int .u32 (x : Int)) = u32s (l.set i x) := by simp [u32s, List.map_set]
theorem u32s_at (l : List Nat) {i : Nat} {x : Nat} (h : l[i]? = some x) : (u32s l)[i]? = some (.int .u32 (x : Int)) := by simp [u32s, h]
theorem info_u32 : (Tryz.prog.info? 72).map (fun i => (i.zero, i.size, i.bytes)) = some (some (.int .u32 0), 1, 4) := by kernel_rfl

structure DSt (gw : Int) (w : World) (gx gi : Nat) (A : Option Addr) (n cg : Nat) (AE : Option Addr) (m ce : Nat) (rb : List Nat) (W : World) : Prop where
  x : At W gx [.slice A n cg, .slice AE m ce, .int .i64 0, .int .i64 gw] 34
  i : At W gi (u32s rb) 72
  ne : gx ≠ gi
  hx : w.heap.size ≤ gx
  hi : w.heap.size ≤ gi
  b : Below w.heap.size w W
  len : rb.length = n
section
variable {gw : Int} {w W W' : World} {gx gi n cg m ce : Nat} {A AE : Option Addr} {rb : List Nat}
theorem DSt.below (h : DSt gw w gx gi A n cg AE m ce rb W) (hb : Below W.heap.size W W') : DSt gw w gx gi A n cg AE m ce rb W' := ⟨h.x.below hb h.x.lt, h.i.below hb h.i.lt, h.ne, h.hx, h.hi, h.b.trans (hb.mono h.b.size), h.len⟩
theorem DSt.set (h : DSt gw w gx gi A n cg AE m ce rb W) (j : Nat) (y : Nat) : DSt gw w gx gi A n cg AE m ce (rb.set j y) (W.setCell ⟨gi, j, none⟩ (.int .u32 (y : Int))) :=
  ⟨h.x.off h.ne, h.i.put (u32s_set _ _ _).symm, h.ne, h.hx, h.hi, h.b.setCell h.hi _, by rw [List.length_set]; exact h.len⟩
end
theorem zero_setD {a : List Nat} {i n y : Nat} (ha : a.length = i) (hi : i < n) : (a ++ List.replicate (n - i) 0).set i y = (a ++ [y]) ++ List.replicate (n - (i + 1)) 0 := by
  obtain ⟨k, hk⟩ : ∃ k, n - i = k + 1 := ⟨n - i - 1, by omega⟩
  rw [hk, show n - (i + 1) = k by omega, List.replicate_succ, List.set_append, if_neg (by omega), ha, Nat.sub_self, List.set_cons_zero, List.append_assoc]
  rfl
def ini (s : Int) (x : Int) : Nat := if x = s then 0 else FAR
theorem ini_snd {sl : List Int} {es : List Ed} {s : Int} (hs : sl.Pairwise (· < ·)) (hm : s ∈ sl) : SndD sl es s (sl.map (ini s)) := by
  obtain ⟨i, hi, he, hp⟩ := mem_place hs hm
  refine ⟨?_, fun x v c hv hc hf => ?_, fun x c hc => ?_⟩
  · rw [hp, List.getElem?_map, List.getElem?_eq_getElem hi, he]
    simp [ini]
  · rw [List.getElem?_map, hv] at hc
    have hc2 : ini s v = c := by simpa using hc
    unfold ini at hc2
    by_cases h : v = s
    · subst h
      rw [if_pos rfl] at hc2
      subst hc2
      exact .nil
    · rw [if_neg h] at hc2
      exact absurd hc2.symm hf
  · rw [List.getElem?_map] at hc
    cases hx : sl[x]? with
    | none => rw [hx] at hc; cases hc
    | some v =>
      rw [hx] at hc
      have hc2 : ini s v = c := by simpa using hc
      unfold ini at hc2
      split at hc2 <;> omega
def tb33_15.T15 : Bool × List (List Nat × List Nat) := (true, [([], []), ([], []), ([1], [1]), ([0, 2], [0, 2]), ([], []), ([], []), ([5], [5]), ([4, 6, 3], [4, 6]), ([3, 7, 0, 1, 2, 3], [3]), ([7, 8, 0, 1, 2, 3, 4, 5, 6, 7, 8], [7])])
def tb33_15.B15 : List Nat := [0, 0, 2, 7, 0, 0, 32, 127, 255, 511]
theorem tb33_15.tab15 : rtab .any (opsOf Tryz.f33 15) = tb33_15.T15 := by kernel_rfl
theorem tb33_15.bits15 : waitsOk tb33_15.T15.2 tb33_15.B15 = true := by kernel_rfl
def tb33_17.T17 : Bool × List (List Nat × List Nat) := (true, [([], []), ([], []), ([0, 1], [0, 1]), ([2], [2]), ([], []), ([4], [4]), ([3, 5], [3, 5]), ([6, 6, 0, 1, 2, 3, 4, 5, 6], [6])])
def tb33_17.B17 : List Nat := [0, 0, 3, 7, 0, 16, 63, 127]
theorem tb33_17.tab17 : rtab .any (opsOf Tryz.f33 17) = tb33_17.T17 := by kernel_rfl
theorem tb33_17.bits17 : waitsOk tb33_17.T17.2 tb33_17.B17 = true := by kernel_rfl
set_option maxHeartbeats 16000000 in
set_option maxRecDepth 100000 in
theorem dists13_calls {gw : Int} (w : World) (A AE : Option Addr) (cg ce : Nat) (sl : List Int) (R : List Ed) (s : Int) (hv : RdI w A sl) (he : RdD w AE R) (hs : sl.Pairwise (· < ·)) (hgood : ∀ p ∈ R, p.2.1 ∈ sl ∧ p.2.2.1 ∈ sl) (hbit : ∀ p ∈ R, p.2.2.2 ≤ 2139095040) (h0 : s ∈ sl) (hl : sl.length ≤ 400) (hr : R.length ≤ 400) :
    Calls Tryz.prog 33 #[gV A sl.length cg (.slice AE R.length ce) gw, .int .i64 s] w fun e w' => ∃ v d, e = .returned v ∧ One w 72 1 v sl.length (u32s d) w' ∧ Hid (d.length = sl.length ∧ SndD sl R s d ∧ ClsD sl R R.length d) := by
  obtain ⟨n, hn⟩ : ∃ n, sl.length = n := ⟨_, rfl⟩
  obtain ⟨m, hm⟩ : ∃ n, R.length = n := ⟨_, rfl⟩
  rw [hn] at hl ⊢
  rw [hm] at hr ⊢
  have HV := Lib.hid hv
  have HE := Lib.hid he
  have HS := Lib.hid hs
  have HGD := Lib.hid (And.intro hgood hbit)
  have H0 := Lib.hid h0
  have HN := Lib.hid (And.intro hn hm)
  clear hv he hs hgood h0 hn hbit hm
  unfold gV
  have hm1 := fun wx => run_make_row' (P := Tryz.prog) 88 72 (.int .u32 0) 4 Tryz.underlying88 info_u32 rfl .i64 .i64 n (by omega) (by omega) wx
  go_enter Tryz.func33, Tryz.ntmps33
  go_wp2_with fail
  clear hm1
  refine gen_loopw (fun W => DSt gw w w.heap.size (w.heap.size + 1) A n cg AE m ce (List.replicate n 0) W) ?_ ?_
  · exact ⟨(At.made rfl rfl).al, At.made (by simp) (by rw [toList_madeCells_one]; simp [u32s]), by omega, Nat.le_refl _, by omega, ((Below.refl _ _).alloc (Nat.le_refl _) _).alloc (by simp) _, by simp⟩
  obtain ⟨gx, hgx⟩ : ∃ gx, w.heap.size = gx := ⟨_, rfl⟩
  obtain ⟨gi, hgi⟩ : ∃ gi, w.heap.size + 1 = gi := ⟨_, rfl⟩
  rw [hgi, hgx]
  clear hgx hgi
  intro w3 hG
  have HG3 := Lib.hid hG
  clear hG
  go_loopg [6] n (fun kq v6 w' => ∃ i : Nat, v6 = .int .i64 (i : Int) ∧ Hid (i + kq = n ∧ DSt gw w gx gi A n cg AE m ce ((sl.take i).map (ini s) ++ List.replicate (n - i) 0) w'))
  case atStart => exact ⟨0, rfl, Lib.hid ⟨by omega, by simpa using HG3.out⟩⟩
  case round =>
    clear HG3
    obtain ⟨i, rfl, hI⟩ := hrel
    obtain ⟨hik, hG⟩ := hI.out
    clear hI
    by_cases hi : i < n
    · obtain ⟨k1, rfl⟩ : ∃ k1, gk = k1 + 1 := ⟨gk - 1, by omega⟩
      obtain ⟨x, hx⟩ : ∃ x, sl[i]? = some x := ⟨_, List.getElem?_eq_getElem (by have := HN.out.1; omega)⟩
      obtain ⟨b, rfl, cx⟩ := (HV.out.below hG.b) i x hx
      obtain ⟨x0, hx0⟩ : ∃ x0, wr.cell? ⟨gi, i, none⟩ = some x0 := ⟨_, hG.i.cell i (List.getElem?_eq_getElem (by rw [u32s_length, hG.len]; exact hi))⟩
      have hfr := hG.i.free i
      have hset : DSt gw w gx gi (some ⟨b, 0, none⟩) n cg AE m ce _ (wr.setCell ⟨gi, i, none⟩ (.int .u32 4294967295)) := hG.set i 4294967295
      have hset0 : DSt gw w gx gi (some ⟨b, 0, none⟩) n cg AE m ce _ ((wr.setCell ⟨gi, i, none⟩ (.int .u32 4294967295)).setCell ⟨gi, i, none⟩ (.int .u32 0)) := hset.set i 0
      have htk : (sl.take (i + 1)).map (ini s) = (sl.take i).map (ini s) ++ [ini s x] := by rw [List.take_add_one, hx]; simp
      have hzs := fun y => zero_setD (a := (sl.take i).map (ini s)) (i := i) (n := n) (y := y) (by rw [List.length_map, List.length_take]; have := HN.out.1; omega) hi
      have q0 := hset.x.cell 0 rfl
      have q00 := hG.x.cell 0 rfl
      obtain ⟨b', hb', cx2⟩ := (HV.out.below hset.b) i x hx
      cases hb'
      have hfr2 := hset.i.free i
      obtain ⟨x1, hx1⟩ : ∃ x1, (wr.setCell ⟨gi, i, none⟩ (.int .u32 4294967295)).cell? ⟨gi, i, none⟩ = some x1 := ⟨_, hset.i.cell i (List.getElem?_eq_getElem (by rw [u32s_length, hset.len]; exact hi))⟩
      have HIK := Lib.hid hik
      have j0 : (0 : Int) ≤ (i : Int) := by omega
      have j1 : (i : Int) < (n : Int) := by omega
      have j2 : (n : Int) ≤ 400 := by omega
      by_cases hxs : x = s
      · have q1 : ((x : Int) == s) = true := by rw [hxs]; simp
        rw [hzs, List.set_append, if_pos (by rw [List.length_append, List.length_map, List.length_take]; have := HN.out.1; simp; omega), List.set_append_right _ _ (by rw [List.length_map, List.length_take]; omega)] at hset0
        have hfin : DSt gw w gx gi (some ⟨b, 0, none⟩) n cg AE m ce ((sl.take (i + 1)).map (ini s) ++ List.replicate (n - (i + 1)) 0) ((wr.setCell ⟨gi, i, none⟩ (.int .u32 4294967295)).setCell ⟨gi, i, none⟩ (.int .u32 0)) := by
          rw [htk]
          have e1 : i - ((sl.take i).map (ini s)).length = 0 := by rw [List.length_map, List.length_take]; have := HN.out.1; omega
          rw [e1] at hset0
          have e2 : ini s x = 0 := if_pos hxs
          rw [e2]
          exact hset0
        have HSET := Lib.hid hfin
        clear hG hset hset0 htk hx hik hi hfin hzs hxs
        go_wp2
        go_roundg k1
        case measure => have := HIK.out; omega
        case rel => exact ⟨i + 1, by go_num, Lib.hid ⟨by have := HIK.out; omega, HSET.out⟩⟩
      · have q1 : ((x : Int) == s) = false := beq_eq_false_iff_ne.2 hxs
        have e2 : ini s x = 4294967295 := if_neg hxs
        rw [hzs, ← e2, ← htk] at hset
        have HSET := Lib.hid hset
        clear hG hset hset0 htk hx hik hi hzs hxs e2 hx1 hfr2
        go_wp2
        go_roundg k1
        case measure => have := HIK.out; omega
        case rel => exact ⟨i + 1, by go_num, Lib.hid ⟨by have := HIK.out; omega, HSET.out⟩⟩
    · obtain rfl : n = i := by omega
      rw [List.take_of_length_le (by have := HN.out.1; omega), Nat.sub_self, List.replicate_zero, List.append_nil] at hG
      have hsnd := ini_snd (es := R) HS.out H0.out
      obtain ⟨rb1, hrb1⟩ : ∃ rb1, sl.map (ini s) = rb1 := ⟨_, rfl⟩
      rw [hrb1] at hG hsnd
      have HG1 := Lib.hid hG
      have HSN := Lib.hid hsnd
      clear hG hsnd hrb1 hik hi
      have jn : decide ((n : Int) < (n : Int)) = false := by rw [decide_eq_false_iff_not]; omega
      go_wp2_with fail
      go_loopg [7] (rb1.sum + 1) (fun kq v7 w' => ∃ (again : Bool) (rb : List Nat), v7 = .bool again ∧ Hid (DSt gw w gx gi A n cg AE m ce rb w' ∧ SndD sl R s rb ∧ (again = false → ClsD sl R m rb) ∧ kq = if again = true then rb.sum + 1 else 0))
      case atStart => exact ⟨true, rb1, rfl, Lib.hid ⟨HG1.out, HSN.out, fun h => (by cases h), by rw [if_pos rfl]⟩⟩
      case round =>
        clear HG1 HSN
        obtain ⟨again, rb, rfl, hI⟩ := hrel
        obtain ⟨hG, hsn, hcl, hkq⟩ := hI.out
        clear hI
        cases again with
        | false =>
          have HG := Lib.hid hG
          have HALL := Lib.hid (And.intro hsn (hcl rfl))
          clear hG hsn hcl hkq
          go_wp2
          go_ret
          refine ⟨_, rb, rfl, ⟨?_, HG.out.b⟩, Lib.hid ⟨HG.out.len, HALL.out.1, HALL.out.2⟩⟩
          have h := HG.out
          refine ⟨by rw [u32s_length, h.len, Nat.mul_one], .inr ⟨gi, n, (u32s rb).toArray, rfl, h.hi, h.i, Nat.le_refl _, by unfold maxLen; omega, by rw [List.size_toArray, u32s_length, h.len, Nat.mul_one], ?_⟩⟩
          rw [List.take_of_length_le (by rw [u32s_length, h.len, Nat.mul_one]; exact Nat.le_refl _)]
        | true =>
          rw [if_pos rfl] at hkq
          subst hkq
          have HG := Lib.hid hG
          have HSN := Lib.hid hsn
          clear hG hsn hcl
          go_wp2_with fail
          go_loopg [7, 8] m (fun kq v7 v8 w' => ∃ (k : Nat) (again : Bool) (rb' : List Nat), v7 = .bool again ∧ v8 = .int .i64 (k : Int) ∧ Hid (k + kq = m ∧ DSt gw w gx gi A n cg AE m ce rb' w' ∧ PassD sl R s k rb rb' again))
          case atStart => exact ⟨0, false, rb, rfl, rfl, Lib.hid ⟨by omega, HG.out, ⟨HSN.out, rfl, fun _ => ⟨rfl, fun p hp => by simp at hp⟩, fun h => (by cases h)⟩⟩⟩
          case round =>
            clear HG HSN
            obtain ⟨k, again, rb', rfl, rfl, hI⟩ := hrel
            obtain ⟨hkk, hG, hP⟩ := hI.out
            clear hI
            have j2 : (m : Int) ≤ 400 := by omega
            by_cases hk : k < m
            · obtain ⟨k1, rfl⟩ : ∃ k1, gk = k1 + 1 := ⟨gk - 1, by omega⟩
              obtain ⟨⟨en, u, v, b⟩, hx⟩ : ∃ x, R[k]? = some x := ⟨_, List.getElem?_eq_getElem (by have := HN.out.2; omega)⟩
              obtain ⟨be, rfl, qe, qu, qv, qb⟩ := (HE.out.below hG.b) k en u v b hx
              have q1 := hG.x.cell 1 rfl
              have j0 : (0 : Int) ≤ (k : Int) := by omega
              have j1 : (k : Int) < (m : Int) := by omega
              have HKK := Lib.hid (And.intro hkk (And.intro hG (And.intro hP hx)))
              clear hkk hG hP hx hk
              go_upto_region 15 with (fail)
              clear qe qu qv qb q1
              obtain ⟨g9, hg9⟩ : ∃ g, wr.heap.size = g := ⟨_, rfl⟩
              refine gen_world (fun W => At W g9 [.int .i64 en, .int .i64 u, .int .i64 v, .int .u32 (b : Int)] 74 ∧ DSt gw w gx gi A n cg (some ⟨be, 0, none⟩) m ce rb' W) ?_ ?_
              · exact ⟨At.made hg9 rfl, HKK.out.2.1.below ((Below.refl wr.heap.size wr).alloc (Nat.le_refl _) (.cells #[.int .i64 en, .int .i64 u, .int .i64 v, .int .u32 (b : Int)] 74))⟩
              rw [hg9]
              clear hg9
              rintro w7 ⟨ha7, hG7⟩
              obtain ⟨wd, hwd⟩ : ∃ wd, w7.drew = wd := ⟨_, rfl⟩
              have hGd : DSt gw w gx gi A n cg (some ⟨be, 0, none⟩) m ce rb' wd := by rw [← hwd]; exact hG7.below (Below.refl _ _).drew
              have ha9 : At wd g9 [.int .i64 en, .int .i64 u, .int .i64 v, .int .u32 (b : Int)] 74 := by rw [← hwd]; exact ha7.drew
              have q0 := hGd.x.cell 0 rfl
              have q1 := hGd.x.cell 1 rfl
              have q2 := hGd.x.cell 2 rfl
              have q3 := hGd.x.cell 3 rfl
              have qu := ha9.cell 1 rfl
              have qv := ha9.cell 2 rfl
              have hxm := HKK.out.2.2.2
              have hgp := HGD.out.1 _ (List.mem_of_getElem? hxm)
              have hbb := HGD.out.2 _ (List.mem_of_getElem? hxm)
              have hC : ∀ (x : Int), x ∈ sl → ∀ (W : World), Below wd.heap.size wd W → Calls Tryz.prog 80 #[.agg #[.slice A n cg, .slice (some ⟨be, 0, none⟩) m ce, .int .i64 0, .int .i64 gw], .int .i64 x] W fun e w' => e = .returned (.int .i64 ((place sl x : Nat) : Int)) ∧ Below W.heap.size W w' := fun x hcx W hW => by
                have := place_calls (gw := gw) W A (some ⟨be, 0, none⟩) cg m ce sl x ((HV.out.below hGd.b).below hW) HS.out (by rw [HN.out.1]; omega)
                rw [HN.out.1, plI_pos (List.contains_iff_mem.2 hcx)] at this
                exact this
              have hpu : place sl u < n := by have := place_lt HS.out (show u ∈ sl from hgp.1); have := HN.out.1; omega
              have hpv : place sl v < n := by have := place_lt HS.out (show v ∈ sl from hgp.2); have := HN.out.1; omega
              have hsat : ∀ x, x ∈ sl → sl[place sl x]? = some x := fun x hx => by
                obtain ⟨i, hi, he, hp⟩ := mem_place HS.out hx
                rw [hp, List.getElem?_eq_getElem hi, he]
              have hsu := hsat u hgp.1
              have hsv := hsat v hgp.2
              have HKU := Lib.hid (fun h => HKK.out.2.2.1.keep hxm h)
              have HKV := Lib.hid (fun (x y : Nat) (h1 : rb'[place sl u]? = some x) (h2 : rb'[place sl v]? = some y) (h3 : x ≠ FAR) (h4 : add32 x b < y) => HKK.out.2.2.1.turn HS.out hgp.1 (by have : b ≤ 2139095040 := hbb; omega) hxm h1 h2 h3 h4 hsv)
              have HWK := Lib.hid (fun (x : Nat) (h1 : rb'[place sl u]? = some x) (h3 : x ≠ FAR) => (HKK.out.2.2.1.snd.walk _ _ _ hsu h1 h3).le)
              obtain ⟨pu, hpue⟩ : ∃ pu, place sl u = pu := ⟨_, rfl⟩
              obtain ⟨pv, hpve⟩ : ∃ pv, place sl v = pv := ⟨_, rfl⟩
              have HCU' := hC u hgp.1
              have HCV' := hC v hgp.2
              rw [hpue] at HCU' hpu HKU HKV HWK
              rw [hpve] at HCV' hpv HKU HKV
              have HCU := Lib.hid HCU'
              have HCV := Lib.hid HCV'
              have HGd := Lib.hid (And.intro hGd ha9)
              have hb2 : b ≤ 2139095040 := hbb
              have HBB := Lib.hid hb2
              have u0 : (0 : Int) ≤ (pu : Int) := by omega
              have u1 : (pu : Int) < (n : Int) := by omega
              have v0 : (0 : Int) ≤ (pv : Int) := by omega
              have v1 : (pv : Int) < (n : Int) := by omega
              clear hC hGd ha9 ha7 hG7 hxm hgp hbb hpue hpve HCU' HCV' hsat hsu hsv hb2
              refine start_ (n := 10) (S := fun w' => w'.cell? ⟨gx, 0, none⟩ = some (.slice A n cg) ∧ w'.cell? ⟨gx, 1, none⟩ = some (.slice (some ⟨be, 0, none⟩) m ce) ∧ w'.cell? ⟨gx, 2, none⟩ = some (.int .i64 0) ∧ w'.cell? ⟨gx, 3, none⟩ = some (.int .i64 gw) ∧ w'.cell? ⟨g9, 1, none⟩ = some (.int .i64 u) ∧ w'.cell? ⟨g9, 2, none⟩ = some (.int .i64 v)) (ds := []) (bA 10 0) (by kernel_rfl) rfl rfl ⟨(by rw [hwd]; exact q0), (by rw [hwd]; exact q1), (by rw [hwd]; exact q2), (by rw [hwd]; exact q3), (by rw [hwd]; exact qu), (by rw [hwd]; exact qv)⟩ (fun hHeld => ?_)
              rw [hwd] at hHeld ⊢
              refine with_tabW tb33_15.tab15 tb33_15.bits15 (fun HT_ HW_ => ?_)
              refine pw_ 1 50 (bA 10 2) HT_.out ?_
              refine pw_ 5 54 (bA 10 34) HT_.out ?_
              refine tw_ 0 49 (bA 10 35) HT_.out HW_.out hHeld (hv := by rintro w' ⟨s0, s1, s2, s3, s4, s5⟩; go_simp; with_reducible rfl) (h := ?_)
              refine tw_ 2 51 (bA 10 39) HT_.out HW_.out hHeld (hv := by rintro w' ⟨s0, s1, s2, s3, s4, s5⟩; go_simp; with_reducible rfl) (h := ?_)
              refine tw_ 4 53 (bA 10 55) HT_.out HW_.out hHeld (hv := by rintro w' ⟨s0, s1, s2, s3, s4, s5⟩; go_simp; with_reducible rfl) (h := ?_)
              refine tw_ 6 55 (bA 10 119) HT_.out HW_.out hHeld (hv := by rintro w' ⟨s0, s1, s2, s3, s4, s5⟩; go_simp; with_reducible rfl) (h := ?_)
              refine one_ (i := 3) (N := some 52) (bA 10 127) rfl rfl (one_of HT_.out (by kernel_rfl)) (by decide) (fun K hK => ?_)
              refine gw_ Tryz.func80 #[.agg #[.slice A n cg, .slice (some ⟨be, 0, none⟩) m ce, .int .i64 0, .int .i64 gw], .int .i64 u] ?_
              with_reducible refine ((HCU.out wd (Below.refl _ _))).mono ?_
              rintro e wa ⟨rfl, hb_wa⟩
              refine ⟨_, rfl, ?_⟩
              refine hK.out _ _ ⟨(keep_at hb_wa (show (wd).cell? _ = _ from q0)), (keep_at hb_wa (show (wd).cell? _ = _ from q1)), (keep_at hb_wa (show (wd).cell? _ = _ from q2)), (keep_at hb_wa (show (wd).cell? _ = _ from q3)), (keep_at hb_wa (show (wd).cell? _ = _ from qu)), (keep_at hb_wa (show (wd).cell? _ = _ from qv))⟩ (fun hHeld => ?_)
              clear hK K
              refine norm_ (a' := ?_) ?_ ?_
              rotate_left
              · show Act.put _ (some 52) _ = _
                simp only [Act.put, pA, pB, pC, pD, pE]; rfl
              refine one_ (i := 7) (N := some 56) (bA 10 255) rfl rfl (one_of HT_.out (by kernel_rfl)) (by decide) (fun K hK => ?_)
              refine gw_ Tryz.func80 #[.agg #[.slice A n cg, .slice (some ⟨be, 0, none⟩) m ce, .int .i64 0, .int .i64 gw], .int .i64 v] ?_
              with_reducible refine ((HCV.out wa hb_wa)).mono ?_
              rintro e wb ⟨rfl, hb_wb⟩
              refine ⟨_, rfl, ?_⟩
              refine hK.out _ _ ⟨(keep_at hb_wb (keep_at hb_wa (show (wd).cell? _ = _ from q0))), (keep_at hb_wb (keep_at hb_wa (show (wd).cell? _ = _ from q1))), (keep_at hb_wb (keep_at hb_wa (show (wd).cell? _ = _ from q2))), (keep_at hb_wb (keep_at hb_wa (show (wd).cell? _ = _ from q3))), (keep_at hb_wb (keep_at hb_wa (show (wd).cell? _ = _ from qu))), (keep_at hb_wb (keep_at hb_wa (show (wd).cell? _ = _ from qv)))⟩ (fun hHeld => ?_)
              clear hK K
              refine norm_ (a' := ?_) ?_ ?_
              rotate_left
              · show Act.put _ (some 56) _ = _
                simp only [Act.put, pA, pB, pC, pD, pE]; rfl
              refine pw_ 8 10 (bA 10 511) HT_.out ?_
              refine pw_ 9 11 (bA 10 1023) HT_.out ?_
              refine done_ (done_of HT_.out (by kernel_rfl)) ?_
              clear hHeld HT_ HW_; clear q0 q1 q2 q3 qu qv HCU HCV hwd
              have hbel := hb_wa.trans (hb_wb.mono hb_wa.size)
              have HG2 := Lib.hid (And.intro (HGd.out.1.below hbel) (HGd.out.2.below hbel HGd.out.2.lt))
              clear hb_wa hb_wb hbel HGd
              obtain ⟨x, hx1⟩ : ∃ x1, rb'[pu]? = some x1 := ⟨_, List.getElem?_eq_getElem (by rw [HG2.out.1.len]; exact hpu)⟩
              obtain ⟨y, hx2⟩ : ∃ x2, rb'[pv]? = some x2 := ⟨_, List.getElem?_eq_getElem (by rw [HG2.out.1.len]; exact hpv)⟩
              have cu0 := HG2.out.1.i.cell pu (u32s_at _ hx1)
              by_cases hxf : x = FAR
              · have q1 : ((x : Int) == 4294967295) = true := by rw [hxf]; rfl
                have HP2 := Lib.hid (HKU.out (fun a b h1 h2 h3 => by
                  rw [hx1] at h1
                  cases h1
                  exact absurd hxf h3))
                clear hx1 hx2 HKU HKV HWK hxf
                go_wp2
                go_roundg k1
                case measure => have := HKK.out.1; omega
                case rel => exact ⟨k + 1, again, rb', rfl, by go_num, Lib.hid ⟨by have := HKK.out.1; omega, HG2.out.1, HP2.out⟩⟩
              · have q1 : ((x : Int) == 4294967295) = false := beq_eq_false_iff_ne.2 (by unfold FAR at hxf; omega)
                have hxl := HWK.out x hx1 hxf
                have HAD := Lib.hid (fun W => add01_calls x b W hxl HBB.out)
                obtain ⟨c, hc⟩ : ∃ c, add32 x b = c := ⟨_, rfl⟩
                rw [hc] at HAD
                have hcl : c ≤ 2139095040 := by rw [← hc]; exact (add32_some (by omega) (by have := HBB.out; omega)).2
                have HKV2 := Lib.hid (fun h => HKV.out x y hx1 hx2 hxf h)
                rw [hc] at HKV2
                have HKU2 := Lib.hid (show y ≤ c → PassD sl R s (k + 1) rb rb' again from fun h => HKU.out (fun a d h1 h2 h3 => by
                  rw [hx1] at h1
                  rw [hx2] at h2
                  cases h1
                  cases h2
                  rw [hc]
                  exact h))
                have HX := Lib.hid (And.intro hx1 hx2)
                clear hx1 hx2 HKU HKV HWK hxf hc
                go_upto_region 17 with (fail)
                clear cu0
                obtain ⟨wd, hwd⟩ : ∃ wd, wb.drew = wd := ⟨_, rfl⟩
                have HGd := Lib.hid (show DSt gw w gx gi A n cg (some ⟨be, 0, none⟩) m ce rb' wd ∧ At wd g9 [.int .i64 en, .int .i64 u, .int .i64 v, .int .u32 (b : Int)] 74 from by
                  rw [← hwd]
                  exact ⟨HG2.out.1.below (Below.refl _ _).drew, HG2.out.2.drew⟩)
                have cu := HGd.out.1.i.cell pu (u32s_at _ HX.out.1)
                have c9 := HGd.out.2.cell 3 rfl
                refine start_ (n := 8) (S := fun w' => w'.cell? ⟨gi, pu, none⟩ = some (.int .u32 (x : Int)) ∧ w'.cell? ⟨g9, 3, none⟩ = some (.int .u32 (b : Int))) (ds := []) (bA 8 0) (by kernel_rfl) rfl rfl ⟨(by rw [hwd]; exact cu), (by rw [hwd]; exact c9)⟩ (fun hHeld => ?_)
                rw [hwd] at hHeld ⊢
                refine with_tabW tb33_17.tab17 tb33_17.bits17 (fun HT_ HW_ => ?_)
                refine pw_ 0 62 (bA 8 1) HT_.out ?_
                refine pw_ 1 63 (bA 8 3) HT_.out ?_
                refine pw_ 2 64 (bA 8 7) HT_.out ?_
                refine pw_ 4 66 (bA 8 23) HT_.out ?_
                refine tw_ 3 65 (bA 8 31) HT_.out HW_.out hHeld (hv := by rintro w' ⟨s0, s1⟩; go_simp; with_reducible rfl) (h := ?_)
                refine tw_ 5 67 (bA 8 63) HT_.out HW_.out hHeld (hv := by rintro w' ⟨s0, s1⟩; go_simp; with_reducible rfl) (h := ?_)
                refine one_ (i := 6) (N := some 68) (bA 8 127) rfl rfl (one_of HT_.out (by kernel_rfl)) (by decide) (fun K hK => ?_)
                refine gw_ Tryz.func81 #[.int .u32 (x : Int), .int .u32 (b : Int)] ?_
                with_reducible refine ((HAD.out wd)).mono ?_
                rintro e wa ⟨rfl, hb_wa⟩
                refine ⟨_, rfl, ?_⟩
                refine hK.out _ _ ⟨(keep_at hb_wa (show (wd).cell? _ = _ from cu)), (keep_at hb_wa (show (wd).cell? _ = _ from c9))⟩ (fun hHeld => ?_)
                clear hK K
                refine norm_ (a' := ?_) ?_ ?_
                rotate_left
                · show Act.put _ (some 68) _ = _
                  simp only [Act.put, pA, pB, pC, pD, pE]; rfl
                refine pw_ 7 12 (bA 8 255) HT_.out ?_
                refine done_ (done_of HT_.out (by kernel_rfl)) ?_
                clear hHeld HT_ HW_; clear cu c9 HAD hwd
                have HG3 := Lib.hid (HGd.out.1.below hb_wa)
                clear HGd HG2 hb_wa
                have cv := HG3.out.i.cell pv (u32s_at _ HX.out.2)
                have hfr := HG3.out.i.free pv
                by_cases hcy : c < y
                · have q2 : (c : Int) < (y : Int) := by omega
                  have HP2 := Lib.hid (HKV2.out hcy)
                  have HG4 := Lib.hid (HG3.out.set pv c)
                  clear HKV2 HKU2 HG3 HX hcy
                  go_wp2
                  go_roundg k1
                  case measure => have := HKK.out.1; omega
                  case rel => exact ⟨k + 1, true, rb'.set pv c, rfl, by go_num, Lib.hid ⟨by have := HKK.out.1; omega, HG4.out, by have := HP2.out; exact this⟩⟩
                · have q2 : ¬ (c : Int) < (y : Int) := by omega
                  have HP2 := Lib.hid (HKU2.out (by omega))
                  clear HKV2 HKU2 HX hcy
                  go_wp2
                  go_roundg k1
                  case measure => have := HKK.out.1; omega
                  case rel => exact ⟨k + 1, again, rb', rfl, by go_num, Lib.hid ⟨by have := HKK.out.1; omega, HG3.out, HP2.out⟩⟩
            · obtain rfl : m = k := by omega
              have q1 := hG.x.cell 1 rfl
              have HG := Lib.hid hG
              have HP := Lib.hid hP
              have jn : decide ((m : Int) < (m : Int)) = false := by rw [decide_eq_false_iff_not]; omega
              clear hG hP hkk hk
              go_wp2
              go_roundg (if again = true then rb'.sum + 1 else 0)
              case measure =>
                cases again with
                | true => have := HP.out.yes rfl; rw [if_pos rfl]; omega
                | false => rw [if_neg (by decide)]; omega
              case rel => exact ⟨again, rb', rfl, Lib.hid ⟨HG.out, HP.out.snd, fun h => (HP.out.no h).2, rfl⟩⟩
end Go.Proofs.YtgihncjllelonaaGreat.Ce
