/- heap.Heap[int, float32]: Lower. -/
import Derived.Test.YtgihncjllelonaaGreatHt5
import Derived.Test.YtgihncjllelonaaGreatHt19
import Derived.Test.YtgihncjllelonaaGreatHt16
import Derived.Test.YtgihncjllelonaaGreatHt17
namespace Go.Proofs.YtgihncjllelonaaGreat.Hf
open Go Go.RowKit Go.Proofs.YtgihncjllelonaaGreat.Mem Go.Proofs.YtgihncjllelonaaGreat.Hn Go.Proofs.YtgihncjllelonaaGreatW.PrintWords Go.Proofs.YtgihncjllelonaaGreatW.PrintLast
attribute [local go_sem ↓] Go.wp_at_zero Go.wp_at_succ
attribute [local go_sem] Go.Proofs.YtgihncjllelonaaGreat.Wt.run_store_float
set_option linter.unusedSimpArgs false
set_option linter.unusedVariables false

def lowS (its : List Itm) (k : Int) (p : Nat) : Option (List Itm) :=
  match its.findIdx? (fun x => decide (x.1 = k)) with
  | none => some its
  | some i => if p < (its.getD i z).2.1 then upS (its.length + 1) (its.set i (k, p, (its.getD i z).2.2)) i else some its

theorem set_same {α : Type} {l : List α} {i : Nat} {x : α} (h : l[i]? = some x) : l.set i x = l := by
  apply List.ext_getElem?
  intro j
  rw [List.getElem?_set]
  by_cases hj : i = j
  · subst hj
    rw [if_pos rfl, if_pos (List.getElem?_eq_some_iff.1 h).1, h]
  · rw [if_neg hj]
theorem fits_set {f : Int → Option Int} {its : List Itm} (h : Fits f its) {i : Nat} {a : Itm} (ha : its[i]? = some a) (p : Nat) : Fits f (its.set i (a.1, p, a.2.2)) := by
  intro k n
  have hi := (List.getElem?_eq_some_iff.1 ha).1
  rw [h]
  constructor
  · rintro ⟨m, rfl, x, hx, hk⟩
    by_cases hm : i = m
    · subst hm
      rw [ha] at hx
      cases hx
      exact ⟨i, rfl, (a.1, p, a.2.2), by rw [List.getElem?_set]; simp [hi], hk⟩
    · exact ⟨m, rfl, x, by rw [List.getElem?_set, if_neg hm]; exact hx, hk⟩
  · rintro ⟨m, rfl, x, hx, hk⟩
    by_cases hm : i = m
    · subst hm
      rw [List.getElem?_set, if_pos rfl, if_pos hi] at hx
      cases hx
      exact ⟨i, rfl, a, ha, hk⟩
    · rw [List.getElem?_set, if_neg hm] at hx
      exact ⟨m, rfl, x, hx, hk⟩
def tb61_2.T2 : Bool × List (List Nat × List Nat) := (true, [([], []), ([0], [0]), ([1], [1]), ([2], [2]), ([3, 2], [2, 3]), ([4, 2], [2, 4]), ([5, 2], [2, 5]), ([2], [2]), ([2], [2]), ([8, 2], [2, 8]), ([9, 2], [2, 9]), ([10, 2], [2, 10]), ([2], [2]), ([11, 12, 2], [2, 11, 12]), ([13, 2], [2, 13]), ([14, 2], [2, 14]), ([6, 7, 15, 2, 2], [2, 6, 7, 15]), ([16, 2], [2, 16]), ([2, 17], [2, 17])])
def tb61_2.B2 : List Nat := [0, 1, 3, 7, 15, 31, 63, 7, 7, 263, 775, 1799, 7, 7943, 16135, 32519, 65535, 131071, 262143]
theorem tb61_2.tab2 : rtab .any (opsOf Tryz.f61 2) = tb61_2.T2 := by kernel_rfl
theorem tb61_2.bits2 : waitsOk tb61_2.T2.2 tb61_2.B2 = true := by kernel_rfl
set_option maxHeartbeats 4000000 in
set_option maxRecDepth 100000 in
theorem lower_none (w : World) (base hb mb : Nat) (iv : Value) (its : List Itm) (came key : Int) (p : Nat) (h : Hp w base hb mb iv its came) (hn : ∀ x ∈ its, x.1 ≠ key) :
    Calls Tryz.prog 61 #[.pointer (some ⟨hb, 0, none⟩), .int .i64 key, .float .f32 p] w fun e w' => e = .returned (.bool false) ∧ Below w.heap.size w w' := by
  obtain ⟨f, hmp, hfit⟩ := h.mp
  have hfn : f key = none := by
    cases hf : f key with
    | none => rfl
    | some v =>
      obtain ⟨j, _, x, hx, hk⟩ := (hfit key v).1 hf
      exact absurd hk (hn x (List.mem_of_getElem? hx))
  have hLK := hmp.lookup_ok (P := Tryz.prog) (T := 159) Tryz.underlying159 Tryz.underlying3 zero_int key
  rw [hfn] at hLK
  simp only [Option.getD_none, Option.isSome_none] at hLK
  have d2 := h.hat.cell 2 rfl
  clear h hmp hfit hfn hn
  go_enter Tryz.func61, Tryz.ntmps61
  go_upto_region 2 with (fail)
  clear hLK d2
  go_region
  all_goals go_wp2_with fail
  all_goals go_ret
  all_goals exact ⟨rfl, by repeat (first | exact Below.refl _ _ | refine Below.drew ?_)⟩
set_option maxHeartbeats 4000000 in
set_option maxRecDepth 100000 in
theorem lower_some (w : World) (base hb mb i : Nat) (iv : Value) (its R : List Itm) (came : Int) (p : Nat) (a : Itm) (h : Hp w base hb mb iv its came) (ha : its[i]? = some a) (hl : its.length ≤ 1000000) (hp32 : p ≤ 2139095040) (hR : (if p < a.2.1 then upS (its.length + 1) (its.set i (a.1, p, a.2.2)) i else some its) = some R) :
    Calls Tryz.prog 61 #[.pointer (some ⟨hb, 0, none⟩), .int .i64 a.1, .float .f32 p] w fun e w' => (∃ r, e = .returned (.bool r)) ∧ Hp w' base hb mb iv R came ∧ HK hb mb iv w w' := by
  have hi : i < its.length := (List.getElem?_eq_some_iff.1 ha).1
  obtain ⟨f, hmp, hfit⟩ := h.mp
  have hf0 : f a.1 = some (i : Int) := (hfit a.1 i).2 ⟨i, rfl, a, ha, rfl⟩
  have hLK := hmp.lookup_ok (P := Tryz.prog) (T := 159) Tryz.underlying159 Tryz.underlying3 zero_int a.1
  rw [hf0] at hLK
  simp only [Option.getD_some, Option.isSome_some] at hLK
  have hat := h.hat
  have hown := h.own
  obtain ⟨g, cap, rfl, hbg, hglt⟩ := hown.form (by omega)
  obtain ⟨n, hn⟩ : ∃ n, its.length = n := ⟨_, rfl⟩
  rw [hn] at h hown hat hi hR hl ⊢
  have xa := enc_at its i a ha
  have a1 := (hown.cellAt (i * 3 + 1) (by omega)).trans xa.2.1
  have d0 := hat.cell 0 rfl
  have d1 := hat.cell 1 rfl
  have d2 := hat.cell 2 rfl
  have i0 : (0 : Int) ≤ (i : Int) := by omega
  have i1 : (i : Int) < (n : Int) := by omega
  have HRK := Lib.hid (And.intro hp32 (h.rk a (List.mem_of_getElem? ha)))
  have hst := hown.stored (i * 3 + 1) (.float .f32 p)
  have hset : (enc its).set (i * 3 + 1) (.float .f32 p) = enc (its.set i (a.1, p, a.2.2)) := by
    rw [← enc_set]
    have s0 : (enc its).set (i * 3) (.int .i64 a.1) = enc its := set_same xa.1
    have hlen := enc_length its
    rw [s0]
    have s2 : ((enc its).set (i * 3 + 1) (.float .f32 p))[i * 3 + 2]? = some (.int .i64 a.2.2) := by rw [List.getElem?_set, if_neg (by omega)]; exact xa.2.2
    exact (set_same s2).symm
  rw [hset] at hst
  have f1 := hown.frozenAt (i * 3 + 1)
  have hp2 : Hp (w.setCell ⟨g, i * 3 + 1, none⟩ (.float .f32 p)) base hb mb (.slice (some ⟨g, 0, none⟩) n cap) (its.set i (a.1, p, a.2.2)) came := by
    refine ⟨?_, by rw [List.length_set, hn]; exact hst.1, ⟨f, ?_, fits_set hfit ha p⟩, h.lb, h.lm, fun x hx => ?_⟩
    · exact hat.off (by have := h.lb; omega)
    · exact hmp.off (by have := h.lm; omega)
    · rcases List.mem_or_eq_of_mem_set hx with hx | rfl
      · exact h.rk x hx
      · exact hp32
  have hk2 : HK hb mb (.slice (some ⟨g, 0, none⟩) n cap) w (w.setCell ⟨g, i * 3 + 1, none⟩ (.float .f32 p)) := (HK.refl _ _ _ _).grown hst.2 rfl
  have HP := Lib.hid (And.intro h (And.intro hp2 (And.intro hk2 hn)))
  have HR := Lib.hid hR
  clear h ha hmp hfit hf0 hown hat xa hst hset hp2 hk2 hbg hglt hp32 hR hn
  go_enter Tryz.func61, Tryz.ntmps61
  go_upto_region 2 with (fail)
  clear hLK
  by_cases hlt : p < a.2.1
  · have hR := HR.out
    rw [if_pos hlt] at hR
    have e1 : decide (p < a.2.1) = true := decide_eq_true hlt
    have HR2 := Lib.hid hR
    clear hR HR
    refine start_ (n := 19) (S := fun w' => w'.cell? ⟨hb, 0, none⟩ = some (.func (.func 56) #[] #[]) ∧ w'.cell? ⟨hb, 1, none⟩ = some (.slice (some ⟨g, 0, none⟩) n cap) ∧ w'.cell? ⟨g, i * 3 + 1, none⟩ = some (.float .f32 a.2.1)) (ds := []) (bA 19 0) (by kernel_rfl) rfl rfl ⟨d0, d1, a1⟩ (fun hHeld => ?_)
    refine with_tabW tb61_2.tab2 tb61_2.bits2 (fun HT_ HW_ => ?_)
    refine pw_ 0 18 (bA 19 1) HT_.out ?_
    refine pw_ 1 19 (bA 19 3) HT_.out ?_
    refine pw_ 2 20 (bA 19 7) HT_.out ?_
    refine pw_ 3 21 (bA 19 15) HT_.out ?_
    refine pw_ 4 22 (bA 19 31) HT_.out ?_
    refine pw_ 5 23 (bA 19 63) HT_.out ?_
    refine pw_ 7 25 (bA 19 191) HT_.out ?_
    refine pw_ 8 26 (bA 19 447) HT_.out ?_
    refine pw_ 9 27 (bA 19 959) HT_.out ?_
    refine pw_ 10 28 (bA 19 1983) HT_.out ?_
    refine pw_ 12 30 (bA 19 6079) HT_.out ?_
    refine tw_ 6 24 (bA 19 6143) HT_.out HW_.out hHeld (hv := by rintro w' ⟨s0, s1, s2⟩; go_simp; with_reducible rfl) (h := ?_)
    refine tw_ 11 29 (bA 19 8191) HT_.out HW_.out hHeld (hv := by rintro w' ⟨s0, s1, s2⟩; go_simp; with_reducible rfl) (h := ?_)
    refine pw_ 13 31 (bA 19 16383) HT_.out ?_
    refine pw_ 14 32 (bA 19 32767) HT_.out ?_
    refine tw_ 15 33 (bA 19 65535) HT_.out HW_.out hHeld (hv := by rintro w' ⟨s0, s1, s2⟩; go_simp; with_reducible rfl) (h := ?_)
    refine one_ (i := 16) (N := some 34) (bA 19 131071) rfl rfl (one_of HT_.out (by kernel_rfl)) (by decide) (fun K hK => ?_)
    refine goesV_ Tryz.func56 (by kernel_rfl) rfl #[.float .f32 p, .float .f32 a.2.1] (by rfl) rfl (.tmp 24) (by rfl) rfl (by simp only [List.map_toArray, List.map_cons, List.map_nil]; rfl) ?_
    with_reducible refine (less_calls _ _ _ HRK.out.1 HRK.out.2).mono ?_
    rintro e w3 ⟨rfl, rfl⟩
    refine ⟨_, rfl, ?_⟩
    refine hK.out _ _ ⟨d0, d1, a1⟩ (fun hHeld => ?_)
    clear hK K
    refine norm_ (a' := ?_) ?_ ?_
    rotate_left
    · show Act.put _ (some 34) _ = _
      simp only [Act.put, pA, pB, pC, pD, pE]; rfl
    refine pw_ 17 35 (bA 19 262143) HT_.out ?_
    refine pw_ 18 36 (bA 19 524287) HT_.out ?_
    refine done_ (done_of HT_.out (by kernel_rfl)) ?_
    clear hHeld HT_ HW_
    go_wp2_with fail
    refine (up_calls _ base hb mb i (n + 1) _ _ R _ HP.out.2.1.drew (by rw [List.length_set, HP.out.2.2.2]; exact hl) HR2.out).mono ?_
    rintro e w1 ⟨rfl, hp3, hk3⟩
    have HP3 := Lib.hid (And.intro hp3 (HP.out.2.2.1.drew.trans hk3))
    clear hp3 hk3
    go_wp2_with fail
    go_ret
    exact ⟨⟨_, rfl⟩, HP3.out.1, HP3.out.2⟩
  · have hR := HR.out
    rw [if_neg hlt] at hR
    obtain rfl := Option.some.inj hR
    have e1 : decide (p < a.2.1) = false := decide_eq_false hlt
    clear hR HR
    refine start_ (n := 19) (S := fun w' => w'.cell? ⟨hb, 0, none⟩ = some (.func (.func 56) #[] #[]) ∧ w'.cell? ⟨hb, 1, none⟩ = some (.slice (some ⟨g, 0, none⟩) n cap) ∧ w'.cell? ⟨g, i * 3 + 1, none⟩ = some (.float .f32 a.2.1)) (ds := []) (bA 19 0) (by kernel_rfl) rfl rfl ⟨d0, d1, a1⟩ (fun hHeld => ?_)
    refine with_tabW tb61_2.tab2 tb61_2.bits2 (fun HT_ HW_ => ?_)
    refine pw_ 0 18 (bA 19 1) HT_.out ?_
    refine pw_ 1 19 (bA 19 3) HT_.out ?_
    refine pw_ 2 20 (bA 19 7) HT_.out ?_
    refine pw_ 3 21 (bA 19 15) HT_.out ?_
    refine pw_ 4 22 (bA 19 31) HT_.out ?_
    refine pw_ 5 23 (bA 19 63) HT_.out ?_
    refine pw_ 7 25 (bA 19 191) HT_.out ?_
    refine pw_ 8 26 (bA 19 447) HT_.out ?_
    refine pw_ 9 27 (bA 19 959) HT_.out ?_
    refine pw_ 10 28 (bA 19 1983) HT_.out ?_
    refine pw_ 12 30 (bA 19 6079) HT_.out ?_
    refine tw_ 6 24 (bA 19 6143) HT_.out HW_.out hHeld (hv := by rintro w' ⟨s0, s1, s2⟩; go_simp; with_reducible rfl) (h := ?_)
    refine tw_ 11 29 (bA 19 8191) HT_.out HW_.out hHeld (hv := by rintro w' ⟨s0, s1, s2⟩; go_simp; with_reducible rfl) (h := ?_)
    refine pw_ 13 31 (bA 19 16383) HT_.out ?_
    refine pw_ 14 32 (bA 19 32767) HT_.out ?_
    refine tw_ 15 33 (bA 19 65535) HT_.out HW_.out hHeld (hv := by rintro w' ⟨s0, s1, s2⟩; go_simp; with_reducible rfl) (h := ?_)
    refine one_ (i := 16) (N := some 34) (bA 19 131071) rfl rfl (one_of HT_.out (by kernel_rfl)) (by decide) (fun K hK => ?_)
    refine goesV_ Tryz.func56 (by kernel_rfl) rfl #[.float .f32 p, .float .f32 a.2.1] (by rfl) rfl (.tmp 24) (by rfl) rfl (by simp only [List.map_toArray, List.map_cons, List.map_nil]; rfl) ?_
    with_reducible refine (less_calls _ _ _ HRK.out.1 HRK.out.2).mono ?_
    rintro e w3 ⟨rfl, rfl⟩
    refine ⟨_, rfl, ?_⟩
    refine hK.out _ _ ⟨d0, d1, a1⟩ (fun hHeld => ?_)
    clear hK K
    refine norm_ (a' := ?_) ?_ ?_
    rotate_left
    · show Act.put _ (some 34) _ = _
      simp only [Act.put, pA, pB, pC, pD, pE]; rfl
    refine pw_ 17 35 (bA 19 262143) HT_.out ?_
    refine pw_ 18 36 (bA 19 524287) HT_.out ?_
    refine done_ (done_of HT_.out (by kernel_rfl)) ?_
    clear hHeld HT_ HW_
    go_wp2_with fail
    go_ret
    exact ⟨⟨_, rfl⟩, HP.out.1.drew, (HK.refl _ _ _ _).drew⟩
theorem lower_calls (w : World) (base hb mb : Nat) (iv : Value) (its R : List Itm) (came key : Int) (p : Nat) (h : Hp w base hb mb iv its came) (hl : its.length ≤ 1000000) (hp32 : p ≤ 2139095040) (hR : lowS its key p = some R) :
    Calls Tryz.prog 61 #[.pointer (some ⟨hb, 0, none⟩), .int .i64 key, .float .f32 p] w fun e w' => (∃ r, e = .returned (.bool r)) ∧ Hp w' base hb mb iv R came ∧ HK hb mb iv w w' := by
  unfold lowS at hR
  cases hf : its.findIdx? (fun x => decide (x.1 = key)) with
  | none =>
    rw [hf] at hR
    obtain rfl := Option.some.inj hR
    rw [List.findIdx?_eq_none_iff] at hf
    exact (lower_none w base hb mb iv its came key p h fun x hx => by simpa using hf x hx).mono fun e w' ⟨he, hb⟩ => ⟨⟨_, he⟩, h.below hb, HK.ofBelow hb⟩
  | some i =>
    rw [hf] at hR
    obtain ⟨hi, hk, _⟩ := List.findIdx?_eq_some_iff_getElem.1 hf
    have ha : its[i]? = some its[i] := List.getElem?_eq_getElem hi
    have hk : its[i].1 = key := by simpa using hk
    obtain ⟨a, haa⟩ : ∃ a, its[i] = a := ⟨_, rfl⟩
    rw [haa] at ha hk
    subst hk
    dsimp only at hR
    rw [getD_of ha] at hR
    exact lower_some w base hb mb i iv its R came p a h ha hl hp32 hR
end Go.Proofs.YtgihncjllelonaaGreat.Hf

/- tree.Build: the plain machine; what lies in memory while it runs. -/
namespace Go.Proofs.YtgihncjllelonaaGreat.Tb
open Go Go.RowKit Go.MapKept Go.Proofs.YtgihncjllelonaaGreat.Mem Go.Proofs.YtgihncjllelonaaGreat.Sl Go.Proofs.YtgihncjllelonaaGreat.Lw Go.Proofs.YtgihncjllelonaaGreat.Wt Go.Proofs.YtgihncjllelonaaGreat.Om Go.Proofs.YtgihncjllelonaaGreat.Hn Go.Proofs.YtgihncjllelonaaGreat.Hf
set_option linter.unusedSimpArgs false
set_option linter.unusedVariables false

structure Dj where
  its : List Itm
  came : Nat
  sp : Int → Option (Nat × Int)
def setP (sp : Int → Option (Nat × Int)) (v : Int) (r : Nat × Int) : Int → Option (Nat × Int) := fun x => if x = v then some r else sp x
def relaxE (es : List Ed) (d : Nat) (st : Dj) (e : Int) : Option Dj :=
  match es.find? (fun p => decide (p.1 = e)) with
  | none => none
  | some x =>
    if st.its.length < 1000 ∧ st.came < 1000 then
      match st.sp x.2.2.1 with
      | none => if ∀ y ∈ st.its, y.1 ≠ x.2.2.1 then (upS (st.its.length + 1) (st.its ++ [(x.2.2.1, add32 d x.2.2.2, (st.came : Int) + 1)]) st.its.length).map fun T => ⟨T, st.came + 1, setP st.sp x.2.2.1 (add32 d x.2.2.2, e)⟩ else none
      | some r => if add32 d x.2.2.2 < r.1 then (lowS st.its x.2.2.1 (add32 d x.2.2.2)).map fun T => ⟨T, st.came, setP st.sp x.2.2.1 (add32 d x.2.2.2, e)⟩ else some st
    else none
def edgesS (es : List Ed) (d : Nat) : List Int → Dj → Option Dj
  | [], st => some st
  | e :: r, st => (relaxE es d st e).bind (edgesS es d r)
def djS (es : List Ed) (out : Int → List Int) : Nat → Dj → Option (Int → Option (Nat × Int))
  | 0, _ => none
  | k + 1, st => match st.its with
    | [] => some st.sp
    | a :: r => if r.length < 1000 then (dropS (r.length + 2) (a :: r)).bind fun T => (edgesS es a.2.1 (out a.1) ⟨T, st.came, st.sp⟩).bind (djS es out k) else none
def outL (es : List Ed) (u : Int) : List Int := (es.filter fun p => decide (p.2.1 = u)).map (·.1)
theorem outL_snoc (l : List Ed) (x : Ed) (u : Int) : outL (l ++ [x]) u = if u = x.2.1 then outL l u ++ [x.1] else outL l u := by
  unfold outL
  rw [List.filter_append, List.map_append]
  by_cases h : u = x.2.1
  · subst h
    simp
  · rw [if_neg h]
    have : ([x].filter fun p => decide (p.2.1 = u)) = [] := by simp; exact fun e => h e.symm
    rw [this]
    simp

def spF (sp : Int → Option (Nat × Int)) : Int → Option Value := fun v => (sp v).map fun r => .agg #[.float .f32 r.1, .int .i64 r.2]
theorem spF_set (sp : Int → Option (Nat × Int)) (v : Int) (r : Nat × Int) : updV (spF sp) v (some (.agg #[.float .f32 r.1, .int .i64 r.2])) = spF (setP sp v r) := by
  funext x
  unfold updV spF setP
  by_cases h : x = v <;> simp [h]
structure Lo (w5 : World) (gt me ms mo base n cv : Nat) (A : Option Addr) (s : Int) (es : List Ed) (F : Int → Rw) : Prop where
  hat : At w5 gt [.int .i64 s, .slice A n cv, .map (some me), .map (some ms)] 115
  em : MQ w5 me (edF es)
  om : OM w5 base mo F
  sm : ∃ f, MQ w5 ms f
  n1 : me ≠ ms
  n2 : mo ≠ ms
  n3 : ms < base
structure Dy (w5 : World) (ms hb mb base5 : Nat) (st : Dj) (W : World) : Prop where
  k : Kpt (fun k => k = ms ∨ w5.heap.size ≤ k) w5 W
  s : MQ W ms (spF st.sp)
  h : ∃ iv, Hp W base5 hb mb iv st.its (st.came : Int)
  l1 : ms < w5.heap.size
  l2 : w5.heap.size ≤ hb
  l3 : w5.heap.size ≤ mb
  l4 : w5.heap.size ≤ base5
  l5 : base5 ≤ W.heap.size
  q : ∀ v r, st.sp v = some r → r.1 ≤ 2139095040
section
variable {w5 W W' : World} {gt me ms mo base n cv hb mb base5 : Nat} {A : Option Addr} {s : Int} {es : List Ed} {F : Int → Rw} {st : Dj} {iv iv' : Value}
theorem Lo.go (h : Lo w5 gt me ms mo base n cv A s es F) (hk : Kpt (fun k => k = ms ∨ w5.heap.size ≤ k) w5 W) : At W gt [.int .i64 s, .slice A n cv, .map (some me), .map (some ms)] 115 ∧ MQ W me (edF es) ∧ OM W base mo F := by
  obtain ⟨f, hf⟩ := h.sm
  have h1 := h.hat.lt
  have h2 := h.em.lt
  have h3 := h.om.m.lt
  refine ⟨h.hat.kept hk fun hh => hh.elim (hf.ne h.hat) fun hh => by omega, h.em.move (hk.block me h2 fun hh => hh.elim h.n1 fun hh => by omega), h.om.kept hk (fun hh => hh.elim h.n2 fun hh => by omega) fun u k hu hh => ?_⟩
  have := (h.om.r u).lt k hu
  have := h.n3
  omega
theorem Dy.below (h : Dy w5 ms hb mb base5 st W) (hb' : Below W.heap.size W W') : Dy w5 ms hb mb base5 st W' := by
  obtain ⟨iv, hp⟩ := h.h
  exact ⟨h.k.below hb', h.s.below hb' h.s.lt, ⟨iv, hp.below hb'⟩, h.l1, h.l2, h.l3, h.l4, Nat.le_trans h.l5 hb'.size, h.q⟩
theorem Dy.heap (h : Dy w5 ms hb mb base5 st W) (hp : Hp W base5 hb mb iv st.its (st.came : Int)) (hk : HK hb mb iv W W') {T : List Itm} {c : Nat} (hp' : Hp W' base5 hb mb iv' T (c : Int)) : Dy w5 ms hb mb base5 ⟨T, c, st.sp⟩ W' := by
  have l1 := h.l1
  have l2 := h.l2
  have l3 := h.l3
  have l4 := h.l4
  have hlow : ∀ k, k < w5.heap.size → W'.heap[k]? = W.heap[k]? := fun k hkk => hk.block k (by have := h.k.size; omega) (by omega) (by omega) fun e => by have := (hp.own.lt k e.symm).1; omega
  refine ⟨h.k.trans ⟨hk.os, hk.tape, hk.output, hk.size, fun k hkk hn => ?_⟩, h.s.move (hlow ms l1), ⟨iv', hp'⟩, l1, l2, l3, l4, Nat.le_trans h.l5 hk.size, h.q⟩
  exact hlow k (Nat.lt_of_not_le fun hh => hn (.inr hh))
theorem Dy.spot (h : Dy w5 ms hb mb base5 st W) (v : Int) (r : Nat × Int) (hr32 : r.1 ≤ 2139095040) : ∃ o, (Instr.mapUpdate 113 (.map (some ms)) (.int .i64 v) (.agg #[.float .f32 r.1, .int .i64 r.2])).run Tryz.prog W = .ok () (putObj W ms o) ∧ Dy w5 ms hb mb base5 ⟨st.its, st.came, setP st.sp v r⟩ (putObj W ms o) := by
  obtain ⟨o, hr, hm⟩ := h.s.update (P := Tryz.prog) (T := 113) Tryz.underlying113 Tryz.underlying3 v (.agg #[.float .f32 r.1, .int .i64 r.2])
  have l1 := h.l1
  have l2 := h.l2
  have l3 := h.l3
  have l4 := h.l4
  obtain ⟨iv, hp⟩ := h.h
  obtain ⟨f, hmp, hfit⟩ := hp.mp
  refine ⟨o, hr, h.k.trans ⟨rfl, rfl, rfl, by rw [putObj_size]; exact Nat.le_refl _, fun k _ hn => putObj_far fun e => hn (.inl e)⟩, by rw [← spF_set]; exact hm, ⟨iv, hp.hat.putObj (by omega), own_putObj hp.own (by omega), ⟨f, hmp.move (putObj_far (by omega)), hfit⟩, hp.lb, hp.lm, hp.rk⟩, l1, l2, l3, l4, by rw [putObj_size]; exact h.l5, fun x y hy => ?_⟩
  unfold setP at hy
  dsimp only at hy
  split at hy
  · cases hy
    exact hr32
  · exact h.q x y hy
theorem zero_spot : ∀ w : World, (zeroValue 123).run Tryz.prog w = .ok (.agg #[.float .f32 0, .int .i64 0]) w := fun w => by kernel_rfl
theorem Dy.look (h : Dy w5 ms hb mb base5 st W) (v : Int) : (Instr.lookup 113 (.map (some ms)) (.int .i64 v) true).run Tryz.prog W = .ok (.tuple #[(spF st.sp v).getD (.agg #[.float .f32 0, .int .i64 0]), .bool (spF st.sp v).isSome]) W :=
  h.s.lookup_ok Tryz.underlying113 Tryz.underlying3 zero_spot v
def Stays (W W' : World) : Prop := ∀ (g : Nat) (cs : List Value) (T : TypeId), At W g cs T → T ≠ 193 → T ≠ 195 → At W' g cs T
theorem stays_of {its : List Itm} {came : Int} (hp : Hp W base5 hb mb iv its came) (hk : HK hb mb iv W W') : Stays W W' := fun g cs T ha h1 h2 => by
  obtain ⟨f, hm, _⟩ := hp.mp
  exact (hk.block g ha.lt (ha.ne hp.hat h1) (hm.ne ha) (own_off hp.own ha h2)).trans ha
theorem Dy.push (h : Dy w5 ms hb mb base5 st W) {v : Int} {c : Nat} {T : List Itm} (hl : st.its.length < 1000) (hc : st.came < 1000) (hn : ∀ y ∈ st.its, y.1 ≠ v) (hc32 : c ≤ 2139095040) (hR : upS (st.its.length + 1) (st.its ++ [(v, c, (st.came : Int) + 1)]) st.its.length = some T) :
    Calls Tryz.prog 57 #[.pointer (some ⟨hb, 0, none⟩), .int .i64 v, .float .f32 c] W fun e W' => e = .returned (.bool true) ∧ Dy w5 ms hb mb base5 ⟨T, st.came + 1, st.sp⟩ W' ∧ Stays W W' := by
  obtain ⟨iv, hp⟩ := h.h
  exact (push_calls W base5 hb mb (st.its.length + 1) iv st.its T st.came v c hp (by omega) (by omega) (by omega) hn hc32 h.l5 hR).mono fun e W' ⟨he, iv', h1, h2, _⟩ => ⟨he, h.heap hp h2 (c := st.came + 1) h1, stays_of hp h2⟩
theorem Dy.lower (h : Dy w5 ms hb mb base5 st W) {v : Int} {c : Nat} {T : List Itm} (hl : st.its.length < 1000) (hc32 : c ≤ 2139095040) (hR : lowS st.its v c = some T) :
    Calls Tryz.prog 61 #[.pointer (some ⟨hb, 0, none⟩), .int .i64 v, .float .f32 c] W fun e W' => ∃ r, e = .returned (.bool r) ∧ Dy w5 ms hb mb base5 ⟨T, st.came, st.sp⟩ W' ∧ Stays W W' := by
  obtain ⟨iv, hp⟩ := h.h
  exact (lower_calls W base5 hb mb iv st.its T st.came v c hp (by omega) hc32 hR).mono fun e W' ⟨⟨r, he⟩, h1, h2⟩ => ⟨r, he, h.heap hp h2 h1, stays_of hp h2⟩
theorem relaxE_some {d : Nat} {e : Int} {st2 : Dj} (h : relaxE es d st e = some st2) : ∃ u v b, es.find? (fun p => decide (p.1 = e)) = some (e, u, v, b) ∧ st.its.length < 1000 ∧ st.came < 1000 ∧
    ((st.sp v = none ∧ (∀ y ∈ st.its, y.1 ≠ v) ∧ ∃ T, upS (st.its.length + 1) (st.its ++ [(v, add32 d b, (st.came : Int) + 1)]) st.its.length = some T ∧ st2 = ⟨T, st.came + 1, setP st.sp v (add32 d b, e)⟩) ∨
     ∃ r, st.sp v = some r ∧ ((add32 d b < r.1 ∧ ∃ T, lowS st.its v (add32 d b) = some T ∧ st2 = ⟨T, st.came, setP st.sp v (add32 d b, e)⟩) ∨ (¬ add32 d b < r.1 ∧ st2 = st))) := by
  unfold relaxE at h
  cases hf : es.find? (fun p => decide (p.1 = e)) with
  | none => rw [hf] at h; cases h
  | some x =>
    rw [hf] at h
    obtain ⟨e', u, v, b⟩ := x
    have he : e' = e := by simpa using List.find?_some hf
    subst he
    dsimp only at h
    split at h
    · rename_i hl
      refine ⟨u, v, b, rfl, hl.1, hl.2, ?_⟩
      cases hs : st.sp v with
      | none =>
        rw [hs] at h
        dsimp only at h
        split at h
        · rename_i hy
          obtain ⟨T, hT, h2⟩ := Option.map_eq_some_iff.1 h
          exact .inl ⟨rfl, hy, T, hT, h2.symm⟩
        · cases h
      | some r =>
        rw [hs] at h
        dsimp only at h
        refine .inr ⟨r, rfl, ?_⟩
        split at h
        · rename_i hy
          obtain ⟨T, hT, h2⟩ := Option.map_eq_some_iff.1 h
          exact .inl ⟨hy, T, hT, h2.symm⟩
        · rename_i hy
          exact .inr ⟨hy, (Option.some.inj h).symm⟩
    · cases h
def PopQ (w5 : World) (ms hb mb base5 : Nat) (es : List Ed) (R : Int → Option (Nat × Int)) (k : Nat) (x y z : Value) (W : World) : Prop :=
  (z = .bool false ∧ ∃ st, Dy w5 ms hb mb base5 st W ∧ st.sp = R) ∨
  ∃ u d st, x = .int .i64 u ∧ y = .float .f32 d ∧ z = .bool true ∧ Dy w5 ms hb mb base5 st W ∧ d ≤ 2139095040 ∧ (edgesS es d (outL es u) st).bind (djS es (outL es) k) = some R
theorem Dy.pop (h : Dy w5 ms hb mb base5 st W) {k : Nat} {R : Int → Option (Nat × Int)} (hR : djS es (outL es) (k + 1) st = some R) : Calls Tryz.prog 58 #[.pointer (some ⟨hb, 0, none⟩)] W fun e W' => ∃ x y z, e = .returned (.tuple #[x, y, z]) ∧ PopQ w5 ms hb mb base5 es R k x y z W' := by
  obtain ⟨iv, hp⟩ := h.h
  rw [djS] at hR
  cases hi : st.its with
  | nil =>
    rw [hi] at hR hp
    exact (pop_none W base5 hb mb iv _ hp).mono fun e W' ⟨he, hw⟩ => ⟨_, _, _, he, .inl ⟨rfl, st, hw ▸ h, Option.some.inj hR⟩⟩
  | cons a r =>
    rw [hi] at hR
    dsimp only at hR
    split at hR
    · rename_i hl
      cases hd : dropS (r.length + 2) (a :: r) with
      | none => rw [hd] at hR; cases hR
      | some T =>
        rw [hd] at hR
        have hp0 := hp
        rw [hi] at hp
        refine (pop_some W base5 hb mb (r.length + 2) iv (a :: r) T _ a hp rfl (by simp; omega) hd).mono fun e W' ⟨he, iv', h1, h2, h3⟩ => ⟨_, _, _, he, .inr ⟨a.1, a.2.1, ⟨T, st.came, st.sp⟩, rfl, rfl, rfl, h.heap hp0 h2 h1, hp.rk a (by simp), hR⟩⟩
    · cases hR
end
end Go.Proofs.YtgihncjllelonaaGreat.Tb
