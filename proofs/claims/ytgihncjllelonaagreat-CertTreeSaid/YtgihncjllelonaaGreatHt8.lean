/- (*search).from. -/
import Derived.Test.YtgihncjllelonaaGreatHt5
import Derived.Test.YtgihncjllelonaaGreatHt6
import Derived.Test.YtgihncjllelonaaGreatHt7
namespace Go.Proofs.YtgihncjllelonaaGreat.Scc
open Go Go.RowKit Go.Proofs.YtgihncjllelonaaGreat.Mem Go.Proofs.YtgihncjllelonaaGreat.Tj Go.Proofs.YtgihncjllelonaaGreatW.PrintWords Go.Proofs.YtgihncjllelonaaGreatW.PrintLast
attribute [local go_sem ↓] Go.wp_at_zero Go.wp_at_succ
theorem max2_int (k k' : IntKind) (x y : Int) : Builtin.max2 (.int k x) (.int k' y) = pure (.int k (if x < y then y else x)) := by simp [Builtin.max2]
theorem min2_int (k k' : IntKind) (x y : Int) : Builtin.min2 (.int k x) (.int k' y) = pure (.int k (if y < x then y else x)) := by simp [Builtin.min2]
theorem max_two (ats : Array TypeId) (ty : TypeId) (a b : Value) : Builtin.max_ ats ty #[a, b] = (Builtin.max2 a b >>= fun s => pure s) := by simp only [Builtin.max_, List.foldlM_cons, List.foldlM_nil]
theorem min_two (ats : Array TypeId) (ty : TypeId) (a b : Value) : Builtin.min_ ats ty #[a, b] = (Builtin.min2 a b >>= fun s => pure s) := by simp only [Builtin.min_, List.foldlM_cons, List.foldlM_nil]
attribute [local go_sem] max2_int min2_int max_two min_two
set_option linter.unusedSimpArgs false
set_option linter.unusedVariables false

structure Gr (w : World) (G gg n : Nat) (vsv : Value) (out : List (List Nat)) : Prop where
  lenOut : out.length = n
  some : ∃ (bo : Nat) (vals : List Value), At w gg [vsv, .slice (some ⟨bo, 0, none⟩) n n] 138 ∧ At w bo vals 22 ∧ gg < G ∧ bo < G ∧ vals.length = n ∧
    ∀ (u : Nat) (r : List Nat), out[u]? = some r → ∃ A c, vals[u]? = some (.slice A r.length c) ∧ r.length ≤ 1000000 ∧ ∀ (j x : Nat), r[j]? = some x → ∃ b, A = some ⟨b, 0, none⟩ ∧ b < G ∧ w.cell? ⟨b, j, none⟩ = some (.int .i64 (x : Int))

theorem Gr.below {w w' : World} {G gg n : Nat} {vsv : Value} {out : List (List Nat)} (h : Gr w G gg n vsv out) (hb : Below G w w') : Gr w' G gg n vsv out := by
  obtain ⟨bo, vals, h1, h2, h3, h4, h5, h6⟩ := h.some
  refine ⟨h.lenOut, bo, vals, h1.below hb h3, h2.below hb h4, h3, h4, h5, fun u r hu => ?_⟩
  obtain ⟨A, c, g1, g2, g3⟩ := h6 u r hu
  refine ⟨A, c, g1, g2, fun j x hx => ?_⟩
  obtain ⟨b, e1, e2, e3⟩ := g3 j x hx
  exact ⟨b, e1, e2, (hb.cell (p := ⟨b, j, none⟩) e2).trans e3⟩

def frames (l : List (Nat × Nat)) : List Value := l.flatMap fun p => [.int .i64 (p.1 : Int), .int .i64 (p.2 : Int)]
theorem frames_length (l : List (Nat × Nat)) : (frames l).length = l.length * 2 := by
  induction l with
  | nil => rfl
  | cons p r ih => simp only [frames, List.flatMap_cons, List.length_append, List.length_cons, List.length_nil] at *; omega
theorem frames_snoc (l : List (Nat × Nat)) (p : Nat × Nat) : frames (l ++ [p]) = frames l ++ [.int .i64 (p.1 : Int), .int .i64 (p.2 : Int)] := by simp [frames]
theorem frames_at (l : List (Nat × Nat)) (p : Nat × Nat) : (frames (l ++ [p]))[l.length * 2]? = some (.int .i64 (p.1 : Int)) ∧ (frames (l ++ [p]))[l.length * 2 + 1]? = some (.int .i64 (p.2 : Int)) := by
  rw [frames_snoc]
  constructor
  · rw [List.getElem?_append_right (by rw [frames_length]; omega), frames_length]; simp
  · rw [List.getElem?_append_right (by rw [frames_length]; omega), frames_length]; simp
theorem frames_next (l : List (Nat × Nat)) (v m : Nat) : (frames (l ++ [(v, m)])).set (l.length * 2 + 1) (.int .i64 ((m : Int) + 1)) = frames (l ++ [(v, m + 1)]) := by
  rw [frames_snoc, frames_snoc, List.set_append, if_neg (by rw [frames_length]; omega), frames_length, show l.length * 2 + 1 - l.length * 2 = 1 from by omega]
  rfl

theorem own_way {G : Nat} {w w' : World} {base n : Nat} {v : Value} {xs : List Value} (h : w.ownsRow base 235 2 v n xs) (hE : Ext G w w') : w'.ownsRow base 235 2 v n xs := by
  refine own_move h fun k hk => ?_
  obtain ⟨cells, hc⟩ := own_typed h k hk
  have h1 : At w k cells.toList 235 := by unfold At; simpa using hc
  exact (hE.way _ _ h1).trans h1.symm

theorem info_frame : (Tryz.prog.info? 235).map (fun i => (i.zero, i.size, i.bytes)) = some (some (.agg #[.int .i64 0, .int .i64 0]), 2, 16) := by kernel_rfl

def FromRel (w : World) (G base gs gg bi bl bn bc n : Nat) (out : List (List Nat)) (R : St) (k : Nat) (v4 : Value) (w' : World) : Prop :=
  ∃ (S : St) (way : List (Nat × Nat)) (ov : Value), fromS n out k S way = some R ∧ w'.ownsRow base 235 2 v4 way.length (frames way.reverse) ∧ way.length ≤ 1000001 ∧
    Srch w' base gs gg bi bl bn bc n ov S ∧ Below G w w'

def FromPost (w : World) (G base gs gg bi bl bn bc n : Nat) (S : St) (w' : World) : Prop := ∃ ov', Srch w' base gs gg bi bl bn bc n ov' S ∧ Below G w w'

def tb110_3.T3 : Bool × List (List Nat × List Nat) := (true, [([], []), ([0], [0]), ([1], [1]), ([2], [2]), ([], []), ([4], [4]), ([5], [5]), ([6], [6]), ([7], [7]), ([8], [8]), ([9], [9]), ([], []), ([11], [11]), ([12], [12]), ([13], [13]), ([10, 14], [10, 14]), ([15], [15]), ([16], [16]), ([3, 17], [3, 17])])
def tb110_3.B3 : List Nat := [0, 1, 3, 7, 0, 16, 48, 112, 240, 496, 1008, 0, 2048, 6144, 14336, 32752, 65520, 131056, 262143]
theorem tb110_3.tab3 : rtab .any (opsOf Tryz.f110 3) = tb110_3.T3 := by kernel_rfl
theorem tb110_3.bits3 : waitsOk tb110_3.T3.2 tb110_3.B3 = true := by kernel_rfl
def tb110_9.T9 : Bool × List (List Nat × List Nat) := (true, [([], []), ([0], [0]), ([1], [1]), ([2], [2]), ([], []), ([], []), ([5], [5]), ([6], [6]), ([7], [7]), ([], []), ([8, 9], [8, 9]), ([10], [10]), ([], []), ([12], [12]), ([13], [13]), ([14], [14]), ([], []), ([15, 16], [15, 16]), ([17], [17]), ([11, 18], [11, 18]), ([3, 4, 0, 1, 2, 3, 4, 5, 6, 7, 8, 9, 10, 11, 12, 13, 14, 15, 16, 17, 18, 19], [3, 4]), ([20, 19, 0, 1, 2, 3, 4, 5, 6, 7, 8, 9, 10, 11, 12, 13, 14, 15, 16, 17, 18, 19], [19, 20])])
def tb110_9.B9 : List Nat := [0, 1, 3, 7, 0, 0, 32, 96, 224, 0, 992, 2016, 0, 4096, 12288, 28672, 0, 126976, 258048, 524256, 1048575, 2097151]
theorem tb110_9.tab9 : rtab .any (opsOf Tryz.f110 9) = tb110_9.T9 := by kernel_rfl
theorem tb110_9.bits9 : waitsOk tb110_9.T9.2 tb110_9.B9 = true := by kernel_rfl
def tb110_10.T10 : Bool × List (List Nat × List Nat) := (true, [([], []), ([0], [0]), ([1], [1]), ([2], [2]), ([3], [3]), ([4], [4]), ([5], [5]), ([], []), ([7], [7]), ([8], [8]), ([9], [9]), ([6, 10], [6, 10]), ([11], [11]), ([], []), ([13], [13]), ([14], [14]), ([15], [15]), ([12, 16], [12, 16]), ([17], [17]), ([18, 0, 1, 2, 3, 4, 5, 6, 7, 8, 9, 10, 11, 12, 13, 14, 15, 16, 17, 18], [18])])
def tb110_10.B10 : List Nat := [0, 1, 3, 7, 15, 31, 63, 0, 128, 384, 896, 2047, 4095, 0, 8192, 24576, 57344, 131071, 262143, 524287]
theorem tb110_10.tab10 : rtab .any (opsOf Tryz.f110 10) = tb110_10.T10 := by kernel_rfl
theorem tb110_10.bits10 : waitsOk tb110_10.T10.2 tb110_10.B10 = true := by kernel_rfl
def tb110_15.T15 : Bool × List (List Nat × List Nat) := (true, [([], []), ([0], [0]), ([1], [1]), ([2], [2]), ([], []), ([4], [4]), ([5], [5]), ([6], [6]), ([], []), ([8], [8]), ([9], [9]), ([10], [10]), ([], []), ([12], [12]), ([13], [13]), ([14], [14]), ([11, 15], [11, 15]), ([16], [16]), ([], []), ([18], [18]), ([19], [19]), ([20], [20]), ([], []), ([21, 22], [21, 22]), ([23], [23]), ([17, 24], [17, 24]), ([3, 7, 0, 1, 2, 3, 4, 5, 6, 7, 8, 9, 10, 11, 12, 13, 14, 15, 16, 17, 18, 19, 20, 21, 22, 23, 24, 25], [3, 7]), ([26, 25, 0, 1, 2, 3, 4, 5, 6, 7, 8, 9, 10, 11, 12, 13, 14, 15, 16, 17, 18, 19, 20, 21, 22, 23, 24, 25], [25, 26])])
def tb110_15.B15 : List Nat := [0, 1, 3, 7, 0, 16, 48, 112, 0, 256, 768, 1792, 0, 4096, 12288, 28672, 65280, 130816, 0, 262144, 786432, 1835008, 0, 8126464, 16515072, 33554176, 67108863, 134217727]
theorem tb110_15.tab15 : rtab .any (opsOf Tryz.f110 15) = tb110_15.T15 := by kernel_rfl
theorem tb110_15.bits15 : waitsOk tb110_15.T15.2 tb110_15.B15 = true := by kernel_rfl
set_option maxHeartbeats 8000000 in
set_option maxRecDepth 100000 in
theorem from_calls (w : World) (G base gs gg bi bl bn bc n v k : Nat) (ov vsv : Value) (S R : St) (out : List (List Nat)) (hS : Srch w base gs gg bi bl bn bc n ov S) (L : Lie G base gs bi bl bn bc) (hG : Gr w G gg n vsv out)
    (hv : v < n) (hn : n ≤ 1000000) (ht : S.time < 1000000) (hl : S.opn.length < 1000000) (hb : base ≤ w.heap.size) (hR : fromS n out k (enterS S v) [(v, 0)] = some R) :
    Calls Tryz.prog 110 #[.pointer (some ⟨gs, 0, none⟩), .int .i64 v] w fun e w' => e = .returned (.tuple #[]) ∧ FromPost w G base gs gg bi bl bn bc n R w' := by
  have HS := Lib.hid hS
  have HL := Lib.hid L
  have HG := Lib.hid hG
  have HR := Lib.hid hR
  have HB := Lib.hid hb
  clear hS L hG hR hb
  go_enter Tryz.func110, Tryz.ntmps110
  go_wp2_with fail
  refine (enter_calls w G base gs gg bi bl bn bc n v ov S HS.out HL.out hv hn ht hl HB.out).mono ?_
  rintro e w1 ⟨rfl, ov1, hS1, hE1⟩
  have HS1 := Lib.hid hS1
  have HE1 := Lib.hid hE1
  clear hS1 hE1
  go_wp2_with fail
  go_loopg [4] k (fun kq v4 w' => Hid (FromRel w G base gs gg bi bl bn bc n out R kq v4 w'))
  case atStart =>
    have hb : base ≤ w1.heap.size := Nat.le_trans HB.out HE1.out.below.size
    have hG : G ≤ w1.heap.size := by have := HL.out.a1; have := HL.out.b1; omega
    exact Lib.hid ⟨enterS S v, [(v, 0)], ov1, HR.out, World.ownsRow_lit w1 #[.int .i64 (v : Int), .int .i64 0] 1 hb (by decide) rfl, by simp, HS1.out.alloc _, (HE1.out.below.alloc hG _)⟩
  case round =>
    clear HS1 HE1 HS HR
    obtain ⟨S1, way, ovr, hR, hw, hwl, hS, hE⟩ := hrel.out
    clear hrel
    cases gk with
    | zero => simp [fromS] at hR
    | succ k1 =>
      cases way with
      | nil =>
        obtain ⟨A, c, rfl⟩ := own_slice hw
        simp only [fromS] at hR
        obtain rfl := Option.some.inj hR
        have HS := Lib.hid hS
        have HE := Lib.hid hE
        clear hS hE hw hR
        go_wp2
        go_end0
        exact ⟨rfl, ovr, HS.out, HE.out⟩
      | cons p rest =>
        obtain ⟨x, m⟩ := p
        simp only [fromS] at hR
        by_cases hx : x < n
        · rw [if_pos hx] at hR
          obtain ⟨q, hq⟩ : ∃ q, rest.length = q := ⟨_, rfl⟩
          simp only [List.length_cons, List.reverse_cons, hq] at hw hwl
          obtain ⟨g, cap, rfl, hbg, hglt⟩ := hw.form (by omega)
          have hqc : q + 1 ≤ cap := by
            rcases hw.2 with ⟨h1, _⟩ | ⟨_, _, _, h1, _, _, h2, _⟩
            · cases h1
            · cases h1; exact h2
          have hw0 := hw.cellAt (q * 2) (by omega)
          have hw1 := hw.cellAt (q * 2 + 1) (by omega)
          have fa := frames_at rest.reverse (x, m)
          rw [List.length_reverse, hq] at fa
          rw [fa.1] at hw0
          rw [fa.2] at hw1
          have fw0 := hw.frozenAt (q * 2)
          have fw1 := hw.frozenAt (q * 2 + 1)
          have q0 : (0 : Int) ≤ (q : Int) := by omega
          have q1 : (q : Int) ≤ 1000000 := by omega
          have q2 : q ≤ cap := by omega
          have x0 : (0 : Int) ≤ (x : Int) := by omega
          obtain ⟨row, hrow⟩ : ∃ row, out[x]? = some row := ⟨_, List.getElem?_eq_getElem (by rw [HG.out.lenOut]; exact hx)⟩
          obtain ⟨bo, vals, gr1, gr2, gr3, gr4, gr5, gr6⟩ := (HG.out.below hE).some
          obtain ⟨A, c, gr7, gr8, gr9⟩ := gr6 x row hrow
          have d0 := hS.hs.cell 0 rfl
          have d1 := gr1.cell 1 rfl
          have d2 := gr2.cell x gr7
          obtain ⟨len, hlen⟩ : ∃ len, row.length = len := ⟨_, rfl⟩
          rw [hlen] at d2 gr8
          have hro : out.getD x [] = row := by rw [List.getD_eq_getElem?_getD, hrow]; rfl
          rw [hro] at hR
          rw [hlen] at hR
          have HGR := Lib.hid gr9
          have HLEN := Lib.hid hlen
          have HROW := Lib.hid hrow
          clear gr1 gr2 gr7 gr9 hlen hrow hro gr6 gr5
          have x1 : (x : Int) < (n : Int) := by omega
          have HSS := Lib.hid hS
          have HE := Lib.hid hE
          have HW := Lib.hid hw
          have HQ := Lib.hid hq
          clear hS hE hw hq fa
          by_cases hml : m = len
          · subst hml
            rw [if_pos rfl] at hR
            have HP := Lib.hid hR
            clear hR
            go_wp2
            refine start_ (n := 19) (S := fun w' => w'.cell? ⟨g, q * 2 + 1, none⟩ = some (.int .i64 (m : Int)) ∧ w'.cell? ⟨gs, 0, none⟩ = some (.pointer (some ⟨gg, 0, none⟩)) ∧ w'.cell? ⟨gg, 1, none⟩ = some (.slice (some ⟨bo, 0, none⟩) n n) ∧ w'.cell? ⟨g, q * 2, none⟩ = some (.int .i64 (x : Int)) ∧ w'.cell? ⟨bo, x, none⟩ = some (.slice A m c)) (ds := []) (bA 19 0) (by kernel_rfl) rfl rfl ⟨hw1, d0, d1, hw0, d2⟩ (fun hHeld => ?_)
            refine with_tabW tb110_3.tab3 tb110_3.bits3 (fun HT_ HW_ => ?_)
            refine pw_ 0 21 (bA 19 1) HT_.out ?_
            refine pw_ 1 22 (bA 19 3) HT_.out ?_
            refine pw_ 2 23 (bA 19 7) HT_.out ?_
            refine pw_ 4 25 (bA 19 23) HT_.out ?_
            refine pw_ 5 26 (bA 19 55) HT_.out ?_
            refine pw_ 6 27 (bA 19 119) HT_.out ?_
            refine pw_ 11 32 (bA 19 2167) HT_.out ?_
            refine pw_ 12 33 (bA 19 6263) HT_.out ?_
            refine pw_ 13 34 (bA 19 14455) HT_.out ?_
            refine tw_ 3 24 (bA 19 14463) HT_.out HW_.out hHeld (hv := by rintro w' ⟨s0, s1, s2, s3, s4⟩; go_simp; with_reducible rfl) (h := ?_)
            refine tw_ 7 28 (bA 19 14591) HT_.out HW_.out hHeld (hv := by rintro w' ⟨s0, s1, s2, s3, s4⟩; go_simp; with_reducible rfl) (h := ?_)
            refine pw_ 8 29 (bA 19 14847) HT_.out ?_
            refine pw_ 9 30 (bA 19 15359) HT_.out ?_
            refine tw_ 10 31 (bA 19 16383) HT_.out HW_.out hHeld (hv := by rintro w' ⟨s0, s1, s2, s3, s4⟩; go_simp; with_reducible rfl) (h := ?_)
            refine tw_ 14 35 (bA 19 32767) HT_.out HW_.out hHeld (hv := by rintro w' ⟨s0, s1, s2, s3, s4⟩; go_simp; with_reducible rfl) (h := ?_)
            refine pw_ 15 36 (bA 19 65535) HT_.out ?_
            refine tw_ 16 37 (bA 19 131071) HT_.out HW_.out hHeld (hv := by rintro w' ⟨s0, s1, s2, s3, s4⟩; go_simp; with_reducible rfl) (h := ?_)
            refine pw_ 17 38 (bA 19 262143) HT_.out ?_
            refine pw_ 18 39 (bA 19 524287) HT_.out ?_
            refine done_ (done_of HT_.out (by kernel_rfl)) ?_
            clear hHeld HT_ HW_
            go_wp2_with fail
            have hP := HP.out
            clear HP hw0 hw1 fw0 fw1 d0 d1 d2
            cases hL : leaveS S1 x with
            | none => rw [hL] at hP; cases hP
            | some S2 =>
              rw [hL, Option.bind_some] at hP
              refine (leave_calls _ G base gs gg bi bl bn bc n x ovr S1 S2 HSS.out.drew HL.out hx hn hL).mono ?_
              rintro e w2 ⟨rfl, ov2, hS2, hE2⟩
              have hw2 := own_way HW.out.drew hE2
              have hB2 : Below G w w2 := HE.out.drew.trans hE2.below
              clear HSS HW HE hE2 hL
              cases rest with
              | nil =>
                obtain rfl : q = 0 := by have := HQ.out; simp at this; exact this.symm
                have HP := Lib.hid hP
                have HS2 := Lib.hid hS2
                have HW2 := Lib.hid hw2
                have HB2 := Lib.hid hB2
                clear hP hS2 hw2 hB2
                go_wp2
                go_roundg k1
                case measure => omega
                case rel =>
                  have h1 := ownsRow_pop (size := 2) (n := 0) (xs := []) (last := [.int .i64 (x : Int), .int .i64 (m : Int)]) rfl HW2.out
                  exact Lib.hid ⟨S2, [], ov2, HP.out, h1, by simp, HS2.out, HB2.out⟩
              | cons p2 r2 =>
                obtain ⟨u, m'⟩ := p2
                dsimp only at hP
                by_cases hu : u < n
                · rw [if_pos hu] at hP
                  have HP := Lib.hid hP
                  have HS2 := Lib.hid hS2
                  have HW2 := Lib.hid hw2
                  have HB2 := Lib.hid hB2
                  obtain ⟨q', hq'⟩ : ∃ q', r2.length = q' := ⟨_, rfl⟩
                  obtain rfl : q = q' + 1 := by have := HQ.out; simp [hq'] at this; exact this.symm
                  have h1 := ownsRow_pop (size := 2) (n := q' + 1) (xs := frames ((u, m') :: r2).reverse) (last := [.int .i64 (x : Int), .int .i64 (m : Int)]) (by rw [frames_length]; simp [hq']) (by have := hw2; rw [frames_snoc] at this; exact this)
                  have h10 := h1.cellAt (q' * 2) (by omega)
                  have fa := frames_at r2.reverse (u, m')
                  rw [List.length_reverse, hq', ← List.reverse_cons] at fa
                  rw [fa.1] at h10
                  obtain ⟨a, ha⟩ : ∃ a, S2.low[u]? = some a := ⟨_, List.getElem?_eq_getElem (by rw [hS2.hll]; exact hu)⟩
                  obtain ⟨b, hb⟩ : ∃ b, S2.low[x]? = some b := ⟨_, List.getElem?_eq_getElem (by rw [hS2.hll]; exact hx)⟩
                  have c2 := hS2.hs.cell 2 rfl
                  have cu := hS2.hl.cell u (nats_at _ ha)
                  have fu := hS2.hl.free u
                  have cx := hS2.hl.cell x (nats_at _ hb)
                  have u0 : (0 : Int) ≤ (u : Int) := by omega
                  have u1 : (u : Int) < (n : Int) := by omega
                  have q3 : (q' : Int) ≤ 1000000 := by omega
                  have q4 : (0 : Int) ≤ (q' : Int) := by omega
                  have q5 : q' ≤ cap := by omega
                  have HA := Lib.hid ha
                  have HBB := Lib.hid hb
                  have HH1 := Lib.hid h1
                  have HQ' := Lib.hid hq'
                  clear hP hS2 hw2 hB2 fa ha hb h1 hq' HW2
                  go_wp2
                  refine start_ (n := 22) (S := fun w' => w'.cell? ⟨gs, 2, none⟩ = some (.slice (some ⟨bl, 0, none⟩) n n) ∧ w'.cell? ⟨bl, u, none⟩ = some (.int .i64 (a : Int)) ∧ w'.cell? ⟨bl, x, none⟩ = some (.int .i64 (b : Int))) (ds := [21]) (bA 22 0) (by kernel_rfl) rfl rfl ⟨c2, cu, cx⟩ (fun hHeld => ?_)
                  refine with_tabW tb110_9.tab9 tb110_9.bits9 (fun HT_ HW_ => ?_)
                  refine pw_ 0 62 (bA 22 1) HT_.out ?_
                  refine pw_ 1 63 (bA 22 3) HT_.out ?_
                  refine pw_ 2 64 (bA 22 7) HT_.out ?_
                  refine pw_ 4 66 (bA 22 23) HT_.out ?_
                  refine pw_ 5 67 (bA 22 55) HT_.out ?_
                  refine pw_ 6 68 (bA 22 119) HT_.out ?_
                  refine pw_ 7 69 (bA 22 247) HT_.out ?_
                  refine pw_ 9 71 (bA 22 759) HT_.out ?_
                  refine pw_ 12 74 (bA 22 4855) HT_.out ?_
                  refine pw_ 13 75 (bA 22 13047) HT_.out ?_
                  refine pw_ 14 76 (bA 22 29431) HT_.out ?_
                  refine pw_ 16 78 (bA 22 94967) HT_.out ?_
                  refine tw_ 3 65 (bA 22 94975) HT_.out HW_.out hHeld (hv := by rintro w' ⟨s0, s1, s2⟩; go_simp; with_reducible rfl) (h := ?_)
                  refine tw_ 8 70 (bA 22 95231) HT_.out HW_.out hHeld (hv := by rintro w' ⟨s0, s1, s2⟩; go_simp; with_reducible rfl) (h := ?_)
                  refine pw_ 10 72 (bA 22 96255) HT_.out ?_
                  refine tw_ 11 73 (bA 22 98303) HT_.out HW_.out hHeld (hv := by rintro w' ⟨s0, s1, s2⟩; go_simp; with_reducible rfl) (h := ?_)
                  refine tw_ 15 77 (bA 22 131071) HT_.out HW_.out hHeld (hv := by rintro w' ⟨s0, s1, s2⟩; go_simp; with_reducible rfl) (h := ?_)
                  refine pw_ 17 79 (bA 22 262143) HT_.out ?_
                  refine tw_ 18 80 (bA 22 524287) HT_.out HW_.out hHeld (hv := by rintro w' ⟨s0, s1, s2⟩; go_simp; with_reducible rfl) (h := ?_)
                  refine pw_ 19 81 (bA 22 1048575) HT_.out ?_
                  refine pw_ 20 82 (bA 22 2097151) HT_.out ?_
                  refine last_ (i := 21) (N := none) (bA 22 4194303) rfl rfl (one_of HT_.out (by kernel_rfl)) (by decide) (fun K hK => ?_)
                  refine skip_ (w1 := ?_) (by rfl) rfl ?_ ?_
                  rotate_left; · go_simp; rfl
                  refine hK.out _ _ ?_; clear hK K
                  refine done_ (done_of HT_.out (by kernel_rfl)) ?_
                  clear hHeld HT_ HW_; clear c2 cu fu cx
                  have hmin : (if b < a then (b : Int) else (a : Int)) = ((min a b : Nat) : Int) := by split <;> omega
                  rw [hmin]
                  clear hmin
                  refine gen_then (fun W => FromRel w G base gs gg bi bl bn bc n out R k1 (.slice (some ⟨g, 0, none⟩) (q' + 1) cap) W) ?_ ?_
                  · have hS2 := HS2.out
                    have L := HL.out
                    have ha := HA.out
                    have hb := HBB.out
                    have hq' := HQ'.out
                    refine ⟨{ S2 with low := S2.low.set u (min a b) }, (u, m') :: r2, ov2, ?_, ?_, ?_, ⟨hS2.hs.off L.n2, hS2.hi.off L.n5, hS2.hl.put ?_, hS2.hn.off L.n8.symm, hS2.hc.off L.n9.symm, hS2.ho.setB L.b3, hS2.hil, ?_, hS2.hnl, hS2.hcl⟩, ?_⟩
                    · have := HP.out
                      simpa [List.getD_eq_getElem?_getD, ha, hb] using this
                    · simp only [List.length_cons, hq']
                      exact (HH1.out.setB L.b3).drew
                    · simp only [List.length_cons]; omega
                    · rw [nats_set]
                    · simpa using hS2.hll
                    · exact HB2.out.drew.setCell L.a3 _
                  clear HA HBB HH1 HP HS2 HB2
                  intro W3 hF
                  have HF := Lib.hid hF
                  clear hF
                  go_wp2
                  go_roundg k1
                  case measure => omega
                  case rel => exact HF
                · rw [if_neg hu] at hP
                  cases hP
          · rw [if_neg hml] at hR
            by_cases hml2 : m < len
            · rw [if_pos hml2] at hR
              obtain ⟨y, hy⟩ : ∃ y, row[m]? = some y := ⟨_, List.getElem?_eq_getElem (by rw [HLEN.out]; exact hml2)⟩
              have hgy : row.getD m 0 = y := by rw [List.getD_eq_getElem?_getD, hy]; rfl
              rw [hgy] at hR
              clear hgy
              by_cases hyn : y < n
              · rw [if_pos hyn] at hR
                obtain ⟨b, rfl, hbG, hcy⟩ := HGR.out m y hy
                have e1 : ((m : Int) == (len : Int)) = false := beq_eq_false_iff_ne.2 (by omega)
                have e3 : ¬ ((m : Int) = (len : Int)) := by omega
                have m0 : (0 : Int) ≤ (m : Int) := by omega
                have m1 : (m : Int) < (len : Int) := by omega
                have m2 : (m : Int) ≤ 1000000 := by omega
                have y0 : (0 : Int) ≤ (y : Int) := by omega
                have y1 : (y : Int) < (n : Int) := by omega
                have HP := Lib.hid hR
                clear hR hml hy HGR
                go_wp2
                refine start_ (n := 19) (S := fun w' => w'.cell? ⟨g, q * 2 + 1, none⟩ = some (.int .i64 (m : Int)) ∧ w'.cell? ⟨gs, 0, none⟩ = some (.pointer (some ⟨gg, 0, none⟩)) ∧ w'.cell? ⟨gg, 1, none⟩ = some (.slice (some ⟨bo, 0, none⟩) n n) ∧ w'.cell? ⟨g, q * 2, none⟩ = some (.int .i64 (x : Int)) ∧ w'.cell? ⟨bo, x, none⟩ = some (.slice (some ⟨b, 0, none⟩) len c)) (ds := []) (bA 19 0) (by kernel_rfl) rfl rfl ⟨hw1, d0, d1, hw0, d2⟩ (fun hHeld => ?_)
                refine with_tabW tb110_3.tab3 tb110_3.bits3 (fun HT_ HW_ => ?_)
                refine pw_ 0 21 (bA 19 1) HT_.out ?_
                refine pw_ 1 22 (bA 19 3) HT_.out ?_
                refine pw_ 2 23 (bA 19 7) HT_.out ?_
                refine pw_ 4 25 (bA 19 23) HT_.out ?_
                refine pw_ 5 26 (bA 19 55) HT_.out ?_
                refine pw_ 6 27 (bA 19 119) HT_.out ?_
                refine pw_ 11 32 (bA 19 2167) HT_.out ?_
                refine pw_ 12 33 (bA 19 6263) HT_.out ?_
                refine pw_ 13 34 (bA 19 14455) HT_.out ?_
                refine tw_ 3 24 (bA 19 14463) HT_.out HW_.out hHeld (hv := by rintro w' ⟨s0, s1, s2, s3, s4⟩; go_simp; with_reducible rfl) (h := ?_)
                refine tw_ 7 28 (bA 19 14591) HT_.out HW_.out hHeld (hv := by rintro w' ⟨s0, s1, s2, s3, s4⟩; go_simp; with_reducible rfl) (h := ?_)
                refine pw_ 8 29 (bA 19 14847) HT_.out ?_
                refine pw_ 9 30 (bA 19 15359) HT_.out ?_
                refine tw_ 10 31 (bA 19 16383) HT_.out HW_.out hHeld (hv := by rintro w' ⟨s0, s1, s2, s3, s4⟩; go_simp; with_reducible rfl) (h := ?_)
                refine tw_ 14 35 (bA 19 32767) HT_.out HW_.out hHeld (hv := by rintro w' ⟨s0, s1, s2, s3, s4⟩; go_simp; with_reducible rfl) (h := ?_)
                refine pw_ 15 36 (bA 19 65535) HT_.out ?_
                refine tw_ 16 37 (bA 19 131071) HT_.out HW_.out hHeld (hv := by rintro w' ⟨s0, s1, s2, s3, s4⟩; go_simp; with_reducible rfl) (h := ?_)
                refine pw_ 17 38 (bA 19 262143) HT_.out ?_
                refine pw_ 18 39 (bA 19 524287) HT_.out ?_
                refine done_ (done_of HT_.out (by kernel_rfl)) ?_
                clear hHeld HT_ HW_
                go_wp2
                refine start_ (n := 20) (S := fun w' => w'.cell? ⟨gs, 0, none⟩ = some (.pointer (some ⟨gg, 0, none⟩)) ∧ w'.cell? ⟨gg, 1, none⟩ = some (.slice (some ⟨bo, 0, none⟩) n n) ∧ w'.cell? ⟨g, q * 2, none⟩ = some (.int .i64 (x : Int)) ∧ w'.cell? ⟨bo, x, none⟩ = some (.slice (some ⟨b, 0, none⟩) len c) ∧ w'.cell? ⟨g, q * 2 + 1, none⟩ = some (.int .i64 (m : Int)) ∧ w'.cell? ⟨b, m, none⟩ = some (.int .i64 (y : Int))) (ds := []) (bA 20 0) (by kernel_rfl) rfl rfl ⟨d0, d1, hw0, d2, hw1, hcy⟩ (fun hHeld => ?_)
                refine with_tabW tb110_10.tab10 tb110_10.bits10 (fun HT_ HW_ => ?_)
                refine pw_ 0 83 (bA 20 1) HT_.out ?_
                refine pw_ 1 84 (bA 20 3) HT_.out ?_
                refine pw_ 2 85 (bA 20 7) HT_.out ?_
                refine pw_ 7 90 (bA 20 135) HT_.out ?_
                refine pw_ 8 91 (bA 20 391) HT_.out ?_
                refine pw_ 9 92 (bA 20 903) HT_.out ?_
                refine pw_ 13 96 (bA 20 9095) HT_.out ?_
                refine pw_ 14 97 (bA 20 25479) HT_.out ?_
                refine pw_ 15 98 (bA 20 58247) HT_.out ?_
                refine tw_ 3 86 (bA 20 58255) HT_.out HW_.out hHeld (hv := by rintro w' ⟨s0, s1, s2, s3, s4, s5⟩; go_simp; with_reducible rfl) (h := ?_)
                refine pw_ 4 87 (bA 20 58271) HT_.out ?_
                refine pw_ 5 88 (bA 20 58303) HT_.out ?_
                refine tw_ 6 89 (bA 20 58367) HT_.out HW_.out hHeld (hv := by rintro w' ⟨s0, s1, s2, s3, s4, s5⟩; go_simp; with_reducible rfl) (h := ?_)
                refine tw_ 10 93 (bA 20 59391) HT_.out HW_.out hHeld (hv := by rintro w' ⟨s0, s1, s2, s3, s4, s5⟩; go_simp; with_reducible rfl) (h := ?_)
                refine pw_ 11 94 (bA 20 61439) HT_.out ?_
                refine tw_ 12 95 (bA 20 65535) HT_.out HW_.out hHeld (hv := by rintro w' ⟨s0, s1, s2, s3, s4, s5⟩; go_simp; with_reducible rfl) (h := ?_)
                refine tw_ 16 99 (bA 20 131071) HT_.out HW_.out hHeld (hv := by rintro w' ⟨s0, s1, s2, s3, s4, s5⟩; go_simp; with_reducible rfl) (h := ?_)
                refine pw_ 17 100 (bA 20 262143) HT_.out ?_
                refine tw_ 18 101 (bA 20 524287) HT_.out HW_.out hHeld (hv := by rintro w' ⟨s0, s1, s2, s3, s4, s5⟩; go_simp; with_reducible rfl) (h := ?_)
                refine pw_ 19 8 (bA 20 1048575) HT_.out ?_
                refine done_ (done_of HT_.out (by kernel_rfl)) ?_
                clear hHeld HT_ HW_
                refine gen_then (fun W => Srch W base gs gg bi bl bn bc n ovr S1 ∧ W.ownsRow base 235 2 (.slice (some ⟨g, 0, none⟩) (q + 1) cap) (q + 1) (frames (rest.reverse ++ [(x, m)])) ∧ Below G w W) ⟨HSS.out.drew.drew, HW.out.drew.drew, HE.out.drew.drew⟩ ?_
                clear hw0 hw1 fw0 fw1 d0 d1 d2 hcy HSS HW HE e1 e3 hml2 m1 HROW HLEN hglt
                rintro W ⟨hS, hw, hE⟩
                have L := HL.out
                have ng1 : g ≠ gs := by have := L.b1; omega
                have ng2 : g ≠ bi := by have := L.b2; omega
                have ng3 : g ≠ bn := by have := L.b4; omega
                have ng4 : g ≠ bl := by have := L.b3; omega
                have hw1 := hw.cellAt (q * 2 + 1) (by omega)
                have fa := frames_at rest.reverse (x, m)
                rw [List.length_reverse, HQ.out] at fa
                rw [fa.2] at hw1
                have fw1 := hw.frozenAt (q * 2 + 1)
                obtain ⟨iv, hiv⟩ : ∃ iv, S1.idx[y]? = some iv := ⟨_, List.getElem?_eq_getElem (by rw [hS.hil]; exact hyn)⟩
                obtain ⟨nv, hnv⟩ : ∃ nv, S1.inn[y]? = some nv := ⟨_, List.getElem?_eq_getElem (by rw [hS.hnl]; exact hyn)⟩
                have c1 := hS.hs.cell 1 rfl
                have c3 := hS.hs.cell 3 rfl
                have ci := hS.hi.cell y (nats_at _ hiv)
                have cn := hS.hn.cell y (bls_at _ hnv)
                have hP := HP.out
                rw [show S1.idx.getD y 0 = iv from by rw [List.getD_eq_getElem?_getD, hiv]; rfl, show S1.inn.getD y false = nv from by rw [List.getD_eq_getElem?_getD, hnv]; rfl] at hP
                obtain ⟨cs, hat⟩ := own_at hw
                have hS' := hS.beside L (i := q * 2 + 1) hbg (own_off hS.ho hat (by decide)) (.int .i64 ((m : Int) + 1))
                have hw' := (hw.stored (q * 2 + 1) (.int .i64 ((m : Int) + 1))).1
                have fb := frames_next rest.reverse x m
                rw [List.length_reverse, HQ.out] at fb
                rw [fb] at hw'
                have hE' : Below G w (W.setCell ⟨g, q * 2 + 1, none⟩ (.int .i64 ((m : Int) + 1))) := hE.setCell (p := ⟨g, q * 2 + 1, none⟩) (by have := L.a1; have := L.b1; show G ≤ g; omega) _
                have HS' := Lib.hid hS'
                have HW' := Lib.hid hw'
                have HE' := Lib.hid hE'
                have HIV := Lib.hid hiv
                have HNV := Lib.hid hnv
                have hbW : base ≤ W.heap.size := Nat.le_trans HB.out hE.size
                have HBW := Lib.hid hbW
                clear HP hS hw hE hat hS' hw' hE' fa fb hiv hnv L hbW
                by_cases hz : iv = 0
                · subst hz
                  rw [if_pos rfl] at hP
                  by_cases hck : S1.time < 1000000 ∧ S1.opn.length < 1000000 ∧ rest.length < 1000000
                  · rw [if_pos hck] at hP
                    have HCK := Lib.hid hck
                    have HP := Lib.hid hP
                    clear hck hP
                    obtain ⟨i1, hi1, hz1, hz2, hz3⟩ := info_parts info_frame
                    go_wp2_with fail
                    refine (enter_calls _ G base gs gg bi bl bn bc n y ovr S1 HS'.out HL.out hyn hn HCK.out.1 HCK.out.2.1 (by simpa using HBW.out)).mono ?_
                    rintro e w2 ⟨rfl, ov2, hS2, hE2⟩
                    have HW2 := Lib.hid (own_way HW'.out hE2)
                    have hB2 := HE'.out.trans hE2.below
                    have HB2 := Lib.hid hB2
                    have HS2 := Lib.hid hS2
                    have HBG := Lib.hid (show base ≤ w2.heap.size from Nat.le_trans HB.out hB2.size)
                    clear hS2 hE2 hB2 HS' HW' HE' c1 c3 ci cn hw1 fw1
                    have hq' : q < 1000000 := by have := HCK.out.2.2; have := HQ.out; omega
                    go_wp2_with ((at_builtin; refine wpList_append_lies _ rfl (.tmp 117) (.tmp 121) 237 rfl base 235 i1 (.agg #[.int .i64 0, .int .i64 0]) 2 16 Tryz.underlying237 hi1 hz1 hz2 hz3 rfl (by omega) _ (q + 1) _ rfl (HW2.out.alloc _) ⟨w2.heap.size, 0, none⟩ 1 1 [.int .i64 (y : Int), .int .i64 0] rfl rfl (cell_two_new _ _ _ _) (by simp [Value.oneCell']) (by omega) (by unfold maxLen; omega) (by omega) (by have := HBG.out; simp; omega) _ rfl ?_; intro g2 cap2 w3 hown hgrow hat hlt))
                    have hA := HW2.out.alloc (.cells #[.int .i64 (y : Int), .int .i64 0] 235)
                    have hS3 := (HS2.out.alloc (.cells #[.int .i64 (y : Int), .int .i64 0] 235)).grownWay HL.out hA hgrow
                    have hGG : G ≤ base := by have := HL.out.a1; have := HL.out.b1; omega
                    have hE3 : Below G w w3 := (HB2.out.alloc (Nat.le_trans hGG HBG.out) _).grown hgrow (by have := HBG.out; simp; omega) (fun k hk => Nat.le_trans hGG (hA.lt k hk).1)
                    have HO3 := Lib.hid hown
                    have HS3 := Lib.hid hS3
                    have HE3 := Lib.hid hE3
                    clear hown hgrow hat hlt hA hS3 hE3 HW2 HB2 HS2 HBG
                    go_wp2
                    go_roundg k1
                    case measure => omega
                    case rel =>
                      refine Lib.hid ⟨_, _, ov2, HP.out, ?_, ?_, HS3.out, HE3.out⟩
                      · have hq := HQ.out
                        have := HO3.out
                        simp only [List.length_cons, List.reverse_cons, hq]
                        rw [frames_snoc]
                        exact this
                      · have hq := HQ.out; simp only [List.length_cons, hq]; omega
                  · rw [if_neg hck] at hP
                    cases hP
                · rw [if_neg hz] at hP
                  have z1 : ((iv : Int) == 0) = false := beq_eq_false_iff_ne.2 (by omega)
                  have z2 : ¬ ((iv : Int) = 0) := by omega
                  cases nv with
                  | false =>
                    rw [if_neg (by decide)] at hP
                    have HP := Lib.hid hP
                    clear hP
                    go_wp2
                    go_roundg k1
                    case measure => omega
                    case rel =>
                      refine Lib.hid ⟨_, _, ovr, HP.out, ?_, ?_, HS'.out, HE'.out⟩
                      · have hq := HQ.out
                        simp only [List.length_cons, List.reverse_cons, hq]
                        exact HW'.out
                      · have hq := HQ.out; simp only [List.length_cons, hq]; omega
                  | true =>
                    rw [if_pos rfl] at hP
                    have HP := Lib.hid hP
                    clear hP
                    go_wp2
                    refine gen_world (fun W => Srch W base gs gg bi bl bn bc n ovr S1 ∧ W.ownsRow base 235 2 (.slice (some ⟨g, 0, none⟩) (q + 1) cap) (q + 1) (frames (rest.reverse ++ [(x, m + 1)])) ∧ Below G w W) ⟨HS'.out, HW'.out, HE'.out⟩ ?_
                    clear c1 c3 ci cn hw1 fw1 HS' HW' HE'
                    rintro W2 ⟨hS, hw, hE⟩
                    obtain ⟨a, ha⟩ : ∃ a, S1.low[x]? = some a := ⟨_, List.getElem?_eq_getElem (by rw [hS.hll]; exact hx)⟩
                    have c2 := hS.hs.cell 2 rfl
                    have cl := hS.hl.cell x (nats_at _ ha)
                    have fl := hS.hl.free x
                    have c1 := hS.hs.cell 1 rfl
                    have ci := hS.hi.cell y (nats_at _ HIV.out)
                    have hw0 := hw.cellAt (q * 2) (by omega)
                    have fa := frames_at rest.reverse (x, m + 1)
                    rw [List.length_reverse, HQ.out] at fa
                    rw [fa.1] at hw0
                    have HS' := Lib.hid hS
                    have HW' := Lib.hid hw
                    have HE' := Lib.hid hE
                    have HA := Lib.hid ha
                    clear hS hw hE ha fa
                    refine start_ (n := 28) (S := fun w' => w'.cell? ⟨gs, 2, none⟩ = some (.slice (some ⟨bl, 0, none⟩) n n) ∧ w'.cell? ⟨g, q * 2, none⟩ = some (.int .i64 (x : Int)) ∧ w'.cell? ⟨bl, x, none⟩ = some (.int .i64 (a : Int)) ∧ w'.cell? ⟨gs, 1, none⟩ = some (.slice (some ⟨bi, 0, none⟩) n n) ∧ w'.cell? ⟨bi, y, none⟩ = some (.int .i64 (iv : Int))) (ds := [27]) (bA 28 0) (by kernel_rfl) rfl rfl ⟨c2, hw0, cl, c1, ci⟩ (fun hHeld => ?_)
                    refine with_tabW tb110_15.tab15 tb110_15.bits15 (fun HT_ HW_ => ?_)
                    refine pw_ 0 130 (bA 28 1) HT_.out ?_
                    refine pw_ 1 131 (bA 28 3) HT_.out ?_
                    refine pw_ 2 132 (bA 28 7) HT_.out ?_
                    refine pw_ 4 134 (bA 28 23) HT_.out ?_
                    refine pw_ 5 135 (bA 28 55) HT_.out ?_
                    refine pw_ 6 136 (bA 28 119) HT_.out ?_
                    refine pw_ 8 138 (bA 28 375) HT_.out ?_
                    refine pw_ 9 139 (bA 28 887) HT_.out ?_
                    refine pw_ 10 140 (bA 28 1911) HT_.out ?_
                    refine pw_ 12 142 (bA 28 6007) HT_.out ?_
                    refine pw_ 13 143 (bA 28 14199) HT_.out ?_
                    refine pw_ 14 144 (bA 28 30583) HT_.out ?_
                    refine pw_ 18 148 (bA 28 292727) HT_.out ?_
                    refine pw_ 19 149 (bA 28 817015) HT_.out ?_
                    refine pw_ 20 150 (bA 28 1865591) HT_.out ?_
                    refine pw_ 22 152 (bA 28 6059895) HT_.out ?_
                    refine tw_ 3 133 (bA 28 6059903) HT_.out HW_.out hHeld (hv := by rintro w' ⟨s0, s1, s2, s3, s4⟩; go_simp; with_reducible rfl) (h := ?_)
                    refine tw_ 7 137 (bA 28 6060031) HT_.out HW_.out hHeld (hv := by rintro w' ⟨s0, s1, s2, s3, s4⟩; go_simp; with_reducible rfl) (h := ?_)
                    refine tw_ 11 141 (bA 28 6062079) HT_.out HW_.out hHeld (hv := by rintro w' ⟨s0, s1, s2, s3, s4⟩; go_simp; with_reducible rfl) (h := ?_)
                    refine tw_ 15 145 (bA 28 6094847) HT_.out HW_.out hHeld (hv := by rintro w' ⟨s0, s1, s2, s3, s4⟩; go_simp; with_reducible rfl) (h := ?_)
                    refine pw_ 16 146 (bA 28 6160383) HT_.out ?_
                    refine tw_ 17 147 (bA 28 6291455) HT_.out HW_.out hHeld (hv := by rintro w' ⟨s0, s1, s2, s3, s4⟩; go_simp; with_reducible rfl) (h := ?_)
                    refine tw_ 21 151 (bA 28 8388607) HT_.out HW_.out hHeld (hv := by rintro w' ⟨s0, s1, s2, s3, s4⟩; go_simp; with_reducible rfl) (h := ?_)
                    refine pw_ 23 153 (bA 28 16777215) HT_.out ?_
                    refine tw_ 24 154 (bA 28 33554431) HT_.out HW_.out hHeld (hv := by rintro w' ⟨s0, s1, s2, s3, s4⟩; go_simp; with_reducible rfl) (h := ?_)
                    refine pw_ 25 155 (bA 28 67108863) HT_.out ?_
                    refine pw_ 26 156 (bA 28 134217727) HT_.out ?_
                    refine last_ (i := 27) (N := none) (bA 28 268435455) rfl rfl (one_of HT_.out (by kernel_rfl)) (by decide) (fun K hK => ?_)
                    refine skip_ (w1 := ?_) (by rfl) rfl ?_ ?_
                    rotate_left; · go_simp; rfl
                    refine hK.out _ _ ?_; clear hK K
                    refine done_ (done_of HT_.out (by kernel_rfl)) ?_
                    clear hHeld HT_ HW_
                    have hmin : (if iv < a then (iv : Int) else (a : Int)) = ((min a iv : Nat) : Int) := by split <;> omega
                    rw [hmin]
                    clear hmin; clear c1 c2 cl fl ci hw0
                    refine gen_q (fun W => FromRel w G base gs gg bi bl bn bc n out R k1 (.slice (some ⟨g, 0, none⟩) (q + 1) cap) W) ?_ ?_
                    · have hS2 := HS'.out
                      have L := HL.out
                      have ha := HA.out
                      have hi := HIV.out
                      have hq := HQ.out
                      refine ⟨{ S1 with low := S1.low.set x (min a iv) }, (x, m + 1) :: rest, ovr, ?_, ?_, ?_, ⟨hS2.hs.off L.n2, hS2.hi.off L.n5, hS2.hl.put ?_, hS2.hn.off L.n8.symm, hS2.hc.off L.n9.symm, hS2.ho.setB L.b3, hS2.hil, ?_, hS2.hnl, hS2.hcl⟩, ?_⟩
                      · have := HP.out
                        simpa [List.getD_eq_getElem?_getD, ha, hi] using this
                      · simp only [List.length_cons, List.reverse_cons, hq]
                        exact (HW'.out.setB L.b3).drew
                      · simp only [List.length_cons, hq]; omega
                      · rw [nats_set]
                      · simpa using hS2.hll
                      · exact HE'.out.drew.setCell L.a3 _
                    clear HA HP HS' HE' HW' HIV HNV
                    intro W3 hF
                    have HF := Lib.hid hF
                    clear hF
                    go_wp2
                    go_roundg k1
                    case measure => omega
                    case rel => exact HF
              · rw [if_neg hyn] at hR
                cases hR
            · rw [if_neg hml2] at hR
              cases hR
        · rw [if_neg hx] at hR
          cases hR

end Go.Proofs.YtgihncjllelonaaGreat.Scc
