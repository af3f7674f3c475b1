/- The laws' fixed fact holds. -/
import Derived.Test.YtgihncjllelonaaGreatHt5
import Derived.Test.YtgihncjllelonaaGreatHt30
import Derived.Test.YtgihncjllelonaaGreatHt12
import Derived.Test.YtgihncjllelonaaGreatHt15
import Derived.Test.YtgihncjllelonaaGreatHt27
import Derived.Test.YtgihncjllelonaaGreatHt29
import Derived.Test.YtgihncjllelonaaGreatHt28
namespace Go.Proofs.YtgihncjllelonaaGreat.Ce
open Go Go.RowKit Go.MapKept Go.Proofs.YtgihncjllelonaaGreat.Mem Go.Proofs.YtgihncjllelonaaGreat.Sl Go.Proofs.YtgihncjllelonaaGreat.Lw Go.Proofs.YtgihncjllelonaaGreat.Wt Go.Proofs.YtgihncjllelonaaGreat.Tb Go.Proofs.YtgihncjllelonaaGreat.Scc Go.Proofs.YtgihncjllelonaaGreat.Tj Go.Proofs.YtgihncjllelonaaGreatW.PrintWords Go.Proofs.YtgihncjllelonaaGreatW.PrintLast
attribute [local go_sem ↓] Go.wp_at_zero Go.wp_at_succ
set_option linter.unusedSimpArgs false
set_option linter.unusedVariables false

structure AwM (w W : World) (gv ge ga gl gd gt : Nat) : Prop where
  v : RdI W (some ⟨gv, 0, none⟩) [1, 2, 3]
  e : RdD W (some ⟨ge, 0, none⟩) awE
  a : RdA W (some ⟨ga, 0, none⟩) awA
  l : RdLb W (some ⟨gl, 0, none⟩) awL
  d : RdS W (some ⟨gd, 0, none⟩) awD
  t : At W gt [.int .i64 1, .slice (some ⟨gd, 0, none⟩) 3 3] 26
  b : Below w.heap.size w W
theorem rdI_at {W : World} {g : Nat} {l : List Int} {T : TypeId} (h : At W g (ints l) T) : RdI W (some ⟨g, 0, none⟩) l := fun j x hx => ⟨g, rfl, h.cell j (Mem.ints_at l hx)⟩
theorem rdO_at {W : World} {g : Nat} {l : List Int} {T : TypeId} (h : At W g (ints l) T) : RdO W (some ⟨g, 0, none⟩) l := fun j x hx => ⟨g, 0, rfl, by rw [Nat.zero_add]; exact h.cell j (Mem.ints_at l hx)⟩
theorem awD_in {j : Nat} {v : Int} {f : Bool} {b : Nat} {e : Int} (h : awD[j]? = some (v, f, b, e)) : (j = 0 ∧ v = 1 ∧ f = false ∧ b = 0 ∧ e = 0) ∨ (j = 1 ∧ v = 2 ∧ f = false ∧ b = 1065353216 ∧ e = 1) ∨ (j = 2 ∧ v = 3 ∧ f = true ∧ b = 0 ∧ e = 0) := by
  match j, h with
  | 0, h => cases h; exact .inl ⟨rfl, rfl, rfl, rfl, rfl⟩
  | 1, h => cases h; exact .inr (.inl ⟨rfl, rfl, rfl, rfl, rfl⟩)
  | 2, h => cases h; exact .inr (.inr ⟨rfl, rfl, rfl, rfl, rfl⟩)
  | n + 3, h => simp at h
theorem rdAO_one {W : World} {g : Nat} {a b : Int} {T : TypeId} (h : At W g [.int .i64 a, .int .i64 b] T) : RdAO W (some ⟨g, 0, none⟩) [(a, b)] := fun j u v hx => by
  match j, hx with
  | 0, hx => cases hx; exact ⟨g, 0, rfl, h.cell 0 rfl, h.cell 1 rfl⟩
  | n + 1, hx => simp at hx
section
variable {w W W' : World} {gv ge ga gl gd gt : Nat}
theorem AwM.below (h : AwM w W gv ge ga gl gd gt) (hb : Below W.heap.size W W') : AwM w W' gv ge ga gl gd gt :=
  ⟨h.v.below hb, h.e.below hb, h.a.below hb, h.l.below hb, h.d.below hb, h.t.below hb h.t.lt, h.b.trans (hb.mono h.b.size)⟩
theorem AwM.al (h : AwM w W gv ge ga gl gd gt) (o : Obj) : AwM w (W.alloc o) gv ge ga gl gd gt := h.below ((Below.refl _ _).alloc (Nat.le_refl _) _)
theorem AwM.of {g1 g2 g3 : Nat} (h1 : At W gv (ints [1, 2, 3]) 3) (h2 : At W ge (edsC awE) 74) (h3 : At W ga (arcs2 awA) 61) (h4 : At W g1 [.int .i64 7, .int .i64 7] 76) (h5 : At W g2 [.int .i64 6, .int .i64 9] 76) (h6 : At W g3 [.int .i64 5, .int .i64 5] 76)
    (h7 : At W gl [.int .i64 1, .int .i64 7, .slice (some ⟨g1, 0, none⟩) 1 1, .int .i64 2, .int .i64 7, .slice (some ⟨g2, 0, none⟩) 1 1, .int .i64 3, .int .i64 5, .slice (some ⟨g3, 0, none⟩) 1 1] 69)
    (h8 : At W gd [.int .i64 1, .bool false, .int .u32 0, .int .i64 0, .int .i64 2, .bool false, .int .u32 1065353216, .int .i64 1, .int .i64 3, .bool true, .int .u32 0, .int .i64 0] 78)
    (h9 : At W gt [.int .i64 1, .slice (some ⟨gd, 0, none⟩) 3 3] 26) (hb : Below w.heap.size w W) : AwM w W gv ge ga gl gd gt where
  v := rdI_at h1
  e j e u v b hx := by
    obtain ⟨e1, e2, e3, e4⟩ := edsC_at awE j e u v b hx
    exact ⟨ge, rfl, h2.cell _ e1, h2.cell _ e2, h2.cell _ e3, h2.cell _ e4⟩
  a j u v hx := by
    obtain ⟨e1, e2⟩ := arcs2_at awA j u v hx
    exact ⟨ga, rfl, h3.cell _ e1, h3.cell _ e2⟩
  l j v p rs hx := by
    match j, hx with
    | 0, hx => cases hx; exact ⟨gl, 0, _, 1, rfl, h7.cell 0 rfl, h7.cell 1 rfl, h7.cell 2 rfl, rdAO_one h4, by decide⟩
    | 1, hx => cases hx; exact ⟨gl, 0, _, 1, rfl, h7.cell 3 rfl, h7.cell 4 rfl, h7.cell 5 rfl, rdAO_one h5, by decide⟩
    | 2, hx => cases hx; exact ⟨gl, 0, _, 1, rfl, h7.cell 6 rfl, h7.cell 7 rfl, h7.cell 8 rfl, rdAO_one h6, by decide⟩
    | n + 3, hx => simp at hx
  d j v f b e hx := by
    rcases awD_in hx with ⟨rfl, rfl, rfl, rfl, rfl⟩ | ⟨rfl, rfl, rfl, rfl, rfl⟩ | ⟨rfl, rfl, rfl, rfl, rfl⟩
    · exact ⟨gd, 0, rfl, h8.cell 0 rfl, h8.cell 1 rfl, h8.cell 2 rfl, h8.cell 3 rfl⟩
    · exact ⟨gd, 0, rfl, h8.cell 4 rfl, h8.cell 5 rfl, h8.cell 6 rfl, h8.cell 7 rfl⟩
    · exact ⟨gd, 0, rfl, h8.cell 8 rfl, h8.cell 9 rfl, h8.cell 10 rfl, h8.cell 11 rfl⟩
  t := h9
  b := hb
theorem aw_post {P : Prop} {e : Ending} {w' : World} (hp : P) (h : ∃ b : Bool, e = .returned (.bool b) ∧ (b = true ↔ P) ∧ Below W.heap.size W w') : e = .returned (.bool true) ∧ Below W.heap.size W w' := by
  obtain ⟨b, rfl, hb, hB⟩ := h
  rw [hb.2 hp]
  exact ⟨rfl, hB⟩
theorem aw_postN {P : Prop} {e : Ending} {w' : World} (hp : ¬ P) (h : ∃ b : Bool, e = .returned (.bool b) ∧ (b = true ↔ P) ∧ Below W.heap.size W w') : e = .returned (.bool false) ∧ Below W.heap.size W w' := by
  obtain ⟨b, rfl, hb, hB⟩ := h
  cases b with
  | true => exact absurd (hb.1 rfl) hp
  | false => exact ⟨rfl, hB⟩
theorem aw_call1 {A : Option Addr} {c : Nat} (h : AwM w W gv ge ga gl gd gt) (hc : RdLO W A [[2, 1], [3]]) : Calls Tryz.prog 23 #[.slice (some ⟨gv, 0, none⟩) 3 3, .slice (some ⟨ga, 0, none⟩) 2 2, .slice A 2 c] W fun e w' => e = .returned (.bool true) ∧ Below W.heap.size W w' :=
  (parts_calls W _ _ A 3 2 c [1, 2, 3] awA [[2, 1], [3]] h.v h.a hc (by decide) (by decide) 20 0 _ aw_of (fun h => absurd rfl h) (by decide) (by decide)).mono fun e w' => aw_post aw_parts
theorem aw_call2 {A : Option Addr} {c : Nat} (h : AwM w W gv ge ga gl gd gt) (hc : RdLO W A [[1, 2, 3]]) : Calls Tryz.prog 23 #[.slice (some ⟨gv, 0, none⟩) 3 3, .slice (some ⟨ga, 0, none⟩) 2 2, .slice A 1 c] W fun e w' => e = .returned (.bool false) ∧ Below W.heap.size W w' :=
  (parts_calls W _ _ A 3 2 c [1, 2, 3] awA [[1, 2, 3]] h.v h.a hc (by decide) (by decide) 20 0 _ aw_of (fun h => absurd rfl h) (by decide) (by decide)).mono fun e w' => aw_postN aw_parts1
theorem aw_call3 (h : AwM w W gv ge ga gl gd gt) : Calls Tryz.prog 28 #[.slice (some ⟨gv, 0, none⟩) 3 3, .slice (some ⟨ga, 0, none⟩) 2 2, .slice (some ⟨gl, 0, none⟩) 3 3] W fun e w' => e = .returned (.bool true) ∧ Below W.heap.size W w' :=
  (labels_calls W _ _ _ 3 2 3 [1, 2, 3] awA awL h.v h.a h.l (by decide) (by decide) 20 0 _ aw_of (fun h => absurd rfl h) (fun _ p hp => by simp at hp; rcases hp with rfl | rfl <;> decide)).mono fun e w' => aw_post aw_lab
theorem aw_call4 (h : AwM w W gv ge ga gl gd gt) : Calls Tryz.prog 28 #[.slice (some ⟨gv, 0, none⟩) 3 3, .slice none 0 0, .slice (some ⟨gl, 0, none⟩) 3 3] W fun e w' => e = .returned (.bool false) ∧ Below W.heap.size W w' :=
  (labels_calls W _ none _ 3 0 3 [1, 2, 3] [] awL h.v (fun j u v hx => by simp at hx) h.l (by decide) (by decide) 20 0 _ aw_of0 (fun h => absurd rfl h) (fun _ p hp => by cases hp)).mono fun e w' => aw_postN aw_lab0
theorem aw_call5 (h : AwM w W gv ge ga gl gd gt) : Calls Tryz.prog 10 #[.slice (some ⟨gv, 0, none⟩) 3 3, .slice (some ⟨ge, 0, none⟩) 2 2, .agg #[.int .i64 1, .slice (some ⟨gd, 0, none⟩) 3 3]] W fun e w' => e = .returned (.bool true) ∧ Below W.heap.size W w' := by
  have := tree_calls W _ _ _ 3 2 3 [1, 2, 3] awE awD 1 h.v h.e h.d (by decide) (by decide) (by decide) (by decide)
  rwa [aw_tree] at this
theorem aw_call6 (h : AwM w W gv ge ga gl gd gt) : Calls Tryz.prog 10 #[.slice (some ⟨gv, 0, none⟩) 3 3, .slice (some ⟨ge, 0, none⟩) 1 2, .agg #[.int .i64 2, .slice (some ⟨gd, 0, none⟩) 3 3]] W fun e w' => e = .returned (.bool false) ∧ Below W.heap.size W w' := by
  have := tree_calls W _ _ _ 3 2 3 [1, 2, 3] [(1, 1, 2, 1065353216)] awD 2 h.v (fun j e u v b hx => by
    match j, hx with
    | 0, hx => exact h.e 0 e u v b hx
    | n + 1, hx => simp at hx) h.d (by decide) (by decide) (by decide) (by decide)
  rwa [aw_tree2] at this
def AwF (w : World) (gv ge ga gl gd gt : Nat) (s : Value × Value) (W : World) : Prop := ∃ b2 b3, s.1 = .slice (some ⟨b2, 0, none⟩) 2 2 ∧ s.2 = .slice (some ⟨b3, 0, none⟩) 1 1 ∧ At W b2 (ints [2, 1]) 3 ∧ At W b3 (ints [3]) 3 ∧ AwM w W gv ge ga gl gd gt
theorem aw_f23 (h : AwM w W gv ge ga gl gd gt) : AwF w gv ge ga gl gd gt (.slice (some ⟨W.heap.size, 0, none⟩) 2 2, .slice (some ⟨W.heap.size + 1, 0, none⟩) 1 1) ((W.alloc (.cells #[.int .i64 2, .int .i64 1] 3)).alloc (.cells #[.int .i64 3] 3)) :=
  ⟨_, _, rfl, rfl, (At.made rfl rfl).al, At.made (by simp) rfl, (h.al _).al _⟩
theorem aw_f32 (h : AwM w W gv ge ga gl gd gt) : AwF w gv ge ga gl gd gt (.slice (some ⟨W.heap.size + 1, 0, none⟩) 2 2, .slice (some ⟨W.heap.size, 0, none⟩) 1 1) ((W.alloc (.cells #[.int .i64 3] 3)).alloc (.cells #[.int .i64 2, .int .i64 1] 3)) :=
  ⟨_, _, rfl, rfl, At.made (by simp) rfl, (At.made rfl rfl).al, (h.al _).al _⟩
theorem aw_c4 {b2 b3 g : Nat} (h2 : At W b2 (ints [2, 1]) 3) (h3 : At W b3 (ints [3]) 3) (hg : W.heap.size = g) : RdLO (W.alloc (.cells #[.slice (some ⟨b2, 0, none⟩) 2 2, .slice (some ⟨b3, 0, none⟩) 1 1] 22)) (some ⟨g, 0, none⟩) [[2, 1], [3]] := fun i r hr => by
  have hat : At (W.alloc (.cells #[.slice (some ⟨b2, 0, none⟩) 2 2, .slice (some ⟨b3, 0, none⟩) 1 1] 22)) g [.slice (some ⟨b2, 0, none⟩) 2 2, .slice (some ⟨b3, 0, none⟩) 1 1] 22 := At.made hg rfl
  match i, hr with
  | 0, hr => cases hr; exact ⟨g, 0, _, _, rfl, hat.cell 0 rfl, rdO_at h2.al, by decide⟩
  | 1, hr => cases hr; exact ⟨g, 0, _, _, rfl, hat.cell 1 rfl, rdO_at h3.al, by decide⟩
  | n + 2, hr => simp at hr
theorem aw_c10 {b g : Nat} (h2 : At W b (ints [1, 2, 3]) 3) (hg : W.heap.size = g) : RdLO (W.alloc (.cells #[.slice (some ⟨b, 0, none⟩) 3 3] 22)) (some ⟨g, 0, none⟩) [[1, 2, 3]] := fun i r hr => by
  have hat : At (W.alloc (.cells #[.slice (some ⟨b, 0, none⟩) 3 3] 22)) g [.slice (some ⟨b, 0, none⟩) 3 3] 22 := At.made hg rfl
  match i, hr with
  | 0, hr => cases hr; exact ⟨g, 0, _, _, rfl, hat.cell 0 rfl, rdO_at h2.al, by decide⟩
  | n + 1, hr => simp at hr
end
def tb7_5.T5 : Bool × List (List Nat × List Nat) := (true, [([], []), ([], []), ([], []), ([], []), ([2, 3], [2, 3]), ([0, 1, 4], [0, 1, 4]), ([5, 5], [5]), ([6], [6]), ([6], [6]), ([6], [6]), ([9, 6], [6, 9]), ([7, 8, 10, 6, 6], [6, 7, 8, 10]), ([11, 6], [6, 11]), ([6, 12], [6, 12]), ([13, 11], [13]), ([14], [14]), ([14], [14]), ([14], [14]), ([15, 16, 17, 14, 14], [14, 15, 16, 17]), ([14, 18], [14, 18]), ([19, 18], [19]), ([20], [20]), ([20], [20]), ([21, 22, 20, 20], [20, 21, 22]), ([23, 20], [20, 23]), ([20, 24], [20, 24]), ([25, 23], [25]), ([26], [26]), ([26], [26]), ([26], [26]), ([27, 28, 29, 26, 26], [26, 27, 28, 29]), ([26, 30], [26, 30]), ([31, 30], [31]), ([32], [32]), ([32], [32]), ([34, 32], [32, 34]), ([32], [32]), ([36, 32], [32, 36]), ([37, 32], [32, 37]), ([33, 35, 38, 32, 32], [32, 33, 35, 38]), ([39, 32], [32, 39]), ([32, 40], [32, 40]), ([41, 39, 0, 1, 2, 3, 4, 5, 6, 7, 8, 9, 10, 11, 12, 13, 14, 15, 16, 17, 18, 19, 20, 21, 22, 23, 24, 25, 26, 27, 28, 29, 30, 31, 32, 33, 34, 35, 36, 37, 38, 39, 40, 41], [41])])
def tb7_5.B5 : List Nat := [0, 0, 0, 0, 12, 31, 63, 127, 127, 127, 639, 2047, 4095, 8191, 16383, 32767, 32767, 32767, 262143, 524287, 1048575, 2097151, 2097151, 8388607, 16777215, 33554431, 67108863, 134217727, 134217727, 134217727, 1073741823, 2147483647, 4294967295, 8589934591, 8589934591, 25769803775, 8589934591, 77309411327, 214748364799, 549755813887, 1099511627775, 2199023255551, 4398046511103]
theorem tb7_5.tab5 : rtab .any (opsOf Tryz.f7 5) = tb7_5.T5 := by kernel_rfl
theorem tb7_5.bits5 : waitsOk tb7_5.T5.2 tb7_5.B5 = true := by kernel_rfl
set_option maxHeartbeats 16000000 in
set_option maxRecDepth 100000 in
theorem awake_calls (w : World) : Calls Tryz.prog 7 #[] w fun e w' => e = .returned (.bool true) ∧ Below w.heap.size w w' := by
  go_enter Tryz.func7, Tryz.ntmps7
  go_upto_region 5 with (fail)
  refine gen_world (fun W => AwM w W w.heap.size (w.heap.size + 1) (w.heap.size + 1 + 1) (w.heap.size + 1 + 1 + 1 + 1 + 1 + 1) (w.heap.size + 1 + 1 + 1 + 1 + 1 + 1 + 1) (w.heap.size + 1 + 1 + 1 + 1 + 1 + 1 + 1 + 1)) ?_ ?_
  · exact AwM.of (g1 := w.heap.size + 1 + 1 + 1) (g2 := w.heap.size + 1 + 1 + 1 + 1) (g3 := w.heap.size + 1 + 1 + 1 + 1 + 1) (At.made (by simp) rfl).al.al.al.al.al.al.al.al (At.made (by simp) rfl).al.al.al.al.al.al.al (At.made (by simp) rfl).al.al.al.al.al.al (At.made (by simp) rfl).al.al.al.al.al (At.made (by simp) rfl).al.al.al.al (At.made (by simp) rfl).al.al.al (At.made (by simp) rfl).al.al (At.made (by simp) rfl).al (At.made (by simp) rfl)
      (((((((((Below.refl _ _).alloc (Nat.le_refl _) _).alloc (by simp) _).alloc (by simp; omega) _).alloc (by simp; omega) _).alloc (by simp; omega) _).alloc (by simp; omega) _).alloc (by simp; omega) _).alloc (by simp; omega) _ |>.alloc (by simp; omega) _)
  obtain ⟨gv, h0⟩ : ∃ g, w.heap.size = g := ⟨_, rfl⟩
  obtain ⟨ge, h1⟩ : ∃ g, gv + 1 = g := ⟨_, rfl⟩
  obtain ⟨ga, h2⟩ : ∃ g, ge + 1 = g := ⟨_, rfl⟩
  obtain ⟨gl, h3⟩ : ∃ g, ga + 1 + 1 + 1 + 1 = g := ⟨_, rfl⟩
  obtain ⟨gd, h4⟩ : ∃ g, gl + 1 = g := ⟨_, rfl⟩
  obtain ⟨gt, h5⟩ : ∃ g, gd + 1 = g := ⟨_, rfl⟩
  rw [h0, h1, h2, h3, h4, h5]
  clear h0 h1 h2 h3 h4 h5
  intro w1 hM
  obtain ⟨wd, hwd⟩ : ∃ wd, w1.drew = wd := ⟨_, rfl⟩
  have hMD := hM.below (Below.refl w1.heap.size w1).drew
  rw [hwd] at hMD
  have HMD := Lib.hid hMD
  clear hM hMD
  refine start_ (n := 43) (S := fun w' => w'.cell? ⟨gt, 0, none⟩ = some (.int .i64 1) ∧ w'.cell? ⟨gt, 1, none⟩ = some (.slice (some ⟨gd, 0, none⟩) 3 3)) (ds := []) (bA 43 0) (by kernel_rfl) rfl rfl ⟨(by rw [hwd]; exact HMD.out.t.cell 0 rfl), (by rw [hwd]; exact HMD.out.t.cell 1 rfl)⟩ (fun hHeld => ?_)
  rw [hwd] at hHeld ⊢
  refine with_tabW tb7_5.tab5 tb7_5.bits5 (fun HT_ HW_ => ?_)
  refine pw_ 0 28 (bA 43 1) HT_.out ?_
  refine pw_ 1 29 (bA 43 3) HT_.out ?_
  refine join_ (σ := Value × Value) 39 (bA 43 15) (fun s => [(30, s.1), (31, s.2)]) (fun s w' => AwF w gv ge ga gl gd gt s w') ?_ ?_
  rotate_left
  · intro hCont
    refine two_ (i := 2) (j := 3) (Ni := some 30) (Nj := some 31) (bA 43 7) (bA 43 11) rfl rfl rfl rfl (two_of HT_.out (by kernel_rfl)) (by decide) (by decide) (fun K hK => ?_) (fun K hK => ?_)
    · skip
      refine value_ (w1 := ?_) (v := ?_) (by rfl) rfl ?_ ?_
      rotate_left 2
      · go_simp
        constructor
        · rfl
        · rfl
      have HMA := Lib.hid (HMD.out.al (.cells #[.int .i64 2, .int .i64 1] 3))
      refine hK.out _ _ ⟨(HMA.out.t.cell 0 rfl), (HMA.out.t.cell 1 rfl)⟩ (fun hHeld => ?_)
      clear hK K
      refine norm_ (a' := ?_) ?_ ?_
      rotate_left
      · show Act.put _ (some 30) _ = _
        simp only [Act.put, pA, pB, pC, pD, pE]; rfl
      refine one_ (i := 3) (N := some 31) (bA 43 15) rfl rfl (one_of HT_.out (by kernel_rfl)) (by decide) (fun K hK => ?_)
      refine value_ (w1 := ?_) (v := ?_) (by rfl) rfl ?_ ?_
      rotate_left 2
      · go_simp
        constructor
        · rfl
        · rfl
      have HMB := Lib.hid (HMA.out.al (.cells #[.int .i64 3] 3))
      refine hK.out _ _ ⟨(HMB.out.t.cell 0 rfl), (HMB.out.t.cell 1 rfl)⟩ (fun hHeld => ?_)
      clear hK K
      refine norm_ (a' := ?_) ?_ ?_
      rotate_left
      · show Act.put _ (some 31) _ = _
        simp only [Act.put, pA, pB, pC, pD, pE]; rfl
      exact norm_ (by simp only [putAll, Act.put, List.setIfInBounds_toArray, List.set_cons_zero, List.set_cons_succ]) (hCont (.slice (some ⟨wd.heap.size, 0, none⟩) 2 2, .slice (some ⟨wd.heap.size + 1, 0, none⟩) 1 1) _ (aw_f23 HMD.out))
    · skip
      refine value_ (w1 := ?_) (v := ?_) (by rfl) rfl ?_ ?_
      rotate_left 2
      · go_simp
        constructor
        · rfl
        · rfl
      have HMA := Lib.hid (HMD.out.al (.cells #[.int .i64 3] 3))
      refine hK.out _ _ ⟨(HMA.out.t.cell 0 rfl), (HMA.out.t.cell 1 rfl)⟩ (fun hHeld => ?_)
      clear hK K
      refine norm_ (a' := ?_) ?_ ?_
      rotate_left
      · show Act.put _ (some 31) _ = _
        simp only [Act.put, pA, pB, pC, pD, pE]; rfl
      refine one_ (i := 2) (N := some 30) (bA 43 15) rfl rfl (one_of HT_.out (by kernel_rfl)) (by decide) (fun K hK => ?_)
      refine value_ (w1 := ?_) (v := ?_) (by rfl) rfl ?_ ?_
      rotate_left 2
      · go_simp
        constructor
        · rfl
        · rfl
      have HMB := Lib.hid (HMA.out.al (.cells #[.int .i64 2, .int .i64 1] 3))
      refine hK.out _ _ ⟨(HMB.out.t.cell 0 rfl), (HMB.out.t.cell 1 rfl)⟩ (fun hHeld => ?_)
      clear hK K
      refine norm_ (a' := ?_) ?_ ?_
      rotate_left
      · show Act.put _ (some 30) _ = _
        simp only [Act.put, pA, pB, pC, pD, pE]; rfl
      exact norm_ (by simp only [putAll, Act.put, List.setIfInBounds_toArray, List.set_cons_zero, List.set_cons_succ]) (hCont (.slice (some ⟨wd.heap.size + 1, 0, none⟩) 2 2, .slice (some ⟨wd.heap.size, 0, none⟩) 1 1) _ (aw_f32 HMD.out))
  rintro ⟨s1, s2⟩ wc ⟨b2, b3, h1, h2, h3, h4, h5⟩
  dsimp only at h1 h2
  subst h1 h2
  have HF := Lib.hid (And.intro h3 (And.intro h4 h5))
  have hHeld : wc.cell? ⟨gt, 0, none⟩ = some (.int .i64 1) ∧ wc.cell? ⟨gt, 1, none⟩ = some (.slice (some ⟨gd, 0, none⟩) 3 3) := ⟨h5.t.cell 0 rfl, h5.t.cell 1 rfl⟩
  clear h3 h4 h5
  refine norm_ (a' := ?_) ?_ ?_
  rotate_left; · simp only [putAll, Act.put, List.setIfInBounds_toArray, List.set_cons_zero, List.set_cons_succ]; rfl
  refine one_ (i := 4) (N := some 32) (bA 43 31) rfl rfl (one_of HT_.out (by kernel_rfl)) (by decide) (fun K hK => ?_)
  refine value_ (w1 := ?_) (v := ?_) (by rfl) rfl ?_ ?_
  rotate_left 2
  · go_simp
    constructor
    · rfl
    · rfl
  have HC4 := Lib.hid (aw_c4 HF.out.1 HF.out.2.1 rfl)
  have HM4 := Lib.hid (HF.out.2.2.al (.cells #[.slice (some ⟨b2, 0, none⟩) 2 2, .slice (some ⟨b3, 0, none⟩) 1 1] 22))
  refine hK.out _ _ ⟨(HM4.out.t.cell 0 rfl), (HM4.out.t.cell 1 rfl)⟩ (fun hHeld => ?_)
  clear hK K
  refine norm_ (a' := ?_) ?_ ?_
  rotate_left
  · show Act.put _ (some 32) _ = _
    simp only [Act.put, pA, pB, pC, pD, pE]; rfl
  refine one_ (i := 5) (N := some 33) (bA 43 63) rfl rfl (one_of HT_.out (by kernel_rfl)) (by decide) (fun K hK => ?_)
  refine gw_ Tryz.func23 #[.slice (some ⟨gv, 0, none⟩) 3 3, .slice (some ⟨ga, 0, none⟩) 2 2, .slice (some ⟨wc.heap.size, 0, none⟩) 2 2] ?_
  with_reducible refine (aw_call1 HM4.out HC4.out).mono ?_
  rintro e w5 ⟨rfl, hb5⟩
  refine ⟨_, rfl, ?_⟩
  have HM5 := Lib.hid (HM4.out.below hb5)
  refine hK.out _ _ ⟨(HM5.out.t.cell 0 rfl), (HM5.out.t.cell 1 rfl)⟩ (fun hHeld => ?_)
  clear hK K
  refine norm_ (a' := ?_) ?_ ?_
  rotate_left
  · show Act.put _ (some 33) _ = _
    simp only [Act.put, pA, pB, pC, pD, pE]; rfl
  refine pw_ 6 34 (bA 43 127) HT_.out ?_
  refine pw_ 7 35 (bA 43 255) HT_.out ?_
  refine pw_ 8 36 (bA 43 511) HT_.out ?_
  refine one_ (i := 9) (N := some 37) (bA 43 1023) rfl rfl (one_of HT_.out (by kernel_rfl)) (by decide) (fun K hK => ?_)
  refine value_ (w1 := ?_) (v := ?_) (by rfl) rfl ?_ ?_
  rotate_left 2
  · go_simp
    constructor
    · rfl
    · rfl
  have HA9 := Lib.hid (show At (w5.alloc (.cells #[.int .i64 1, .int .i64 2, .int .i64 3] 3)) w5.heap.size (ints [1, 2, 3]) 3 from At.made rfl rfl)
  have HM9 := Lib.hid (HM5.out.al (.cells #[.int .i64 1, .int .i64 2, .int .i64 3] 3))
  refine hK.out _ _ ⟨(HM9.out.t.cell 0 rfl), (HM9.out.t.cell 1 rfl)⟩ (fun hHeld => ?_)
  clear hK K
  refine norm_ (a' := ?_) ?_ ?_
  rotate_left
  · show Act.put _ (some 37) _ = _
    simp only [Act.put, pA, pB, pC, pD, pE]; rfl
  refine one_ (i := 10) (N := some 38) (bA 43 2047) rfl rfl (one_of HT_.out (by kernel_rfl)) (by decide) (fun K hK => ?_)
  refine value_ (w1 := ?_) (v := ?_) (by rfl) rfl ?_ ?_
  rotate_left 2
  · go_simp
    constructor
    · rfl
    · rfl
  have HC10 := Lib.hid (aw_c10 (g := w5.heap.size + 1) HA9.out (by simp))
  have HM10 := Lib.hid (HM9.out.al (.cells #[.slice (some ⟨w5.heap.size, 0, none⟩) 3 3] 22))
  refine hK.out _ _ ⟨(HM10.out.t.cell 0 rfl), (HM10.out.t.cell 1 rfl)⟩ (fun hHeld => ?_)
  clear hK K
  refine norm_ (a' := ?_) ?_ ?_
  rotate_left
  · show Act.put _ (some 38) _ = _
    simp only [Act.put, pA, pB, pC, pD, pE]; rfl
  refine one_ (i := 11) (N := some 39) (bA 43 4095) rfl rfl (one_of HT_.out (by kernel_rfl)) (by decide) (fun K hK => ?_)
  refine gw_ Tryz.func23 #[.slice (some ⟨gv, 0, none⟩) 3 3, .slice (some ⟨ga, 0, none⟩) 2 2, .slice (some ⟨w5.heap.size + 1, 0, none⟩) 1 1] ?_
  with_reducible refine (aw_call2 HM10.out HC10.out).mono ?_
  rintro e w11 ⟨rfl, hb11⟩
  refine ⟨_, rfl, ?_⟩
  have HM11 := Lib.hid (HM10.out.below hb11)
  refine hK.out _ _ ⟨(HM11.out.t.cell 0 rfl), (HM11.out.t.cell 1 rfl)⟩ (fun hHeld => ?_)
  clear hK K
  refine norm_ (a' := ?_) ?_ ?_
  rotate_left
  · show Act.put _ (some 39) _ = _
    simp only [Act.put, pA, pB, pC, pD, pE]; rfl
  refine pw_ 12 40 (bA 43 8191) HT_.out ?_
  refine pw_ 13 41 (bA 43 16383) HT_.out ?_
  refine pw_ 14 42 (bA 43 32767) HT_.out ?_
  refine pw_ 15 43 (bA 43 65535) HT_.out ?_
  refine pw_ 16 44 (bA 43 131071) HT_.out ?_
  refine pw_ 17 45 (bA 43 262143) HT_.out ?_
  refine one_ (i := 18) (N := some 46) (bA 43 524287) rfl rfl (one_of HT_.out (by kernel_rfl)) (by decide) (fun K hK => ?_)
  refine gw_ Tryz.func28 #[.slice (some ⟨gv, 0, none⟩) 3 3, .slice (some ⟨ga, 0, none⟩) 2 2, .slice (some ⟨gl, 0, none⟩) 3 3] ?_
  with_reducible refine (aw_call3 HM11.out).mono ?_
  rintro e w18 ⟨rfl, hb18⟩
  refine ⟨_, rfl, ?_⟩
  have HM18 := Lib.hid (HM11.out.below hb18)
  refine hK.out _ _ ⟨(HM18.out.t.cell 0 rfl), (HM18.out.t.cell 1 rfl)⟩ (fun hHeld => ?_)
  clear hK K
  refine norm_ (a' := ?_) ?_ ?_
  rotate_left
  · show Act.put _ (some 46) _ = _
    simp only [Act.put, pA, pB, pC, pD, pE]; rfl
  refine pw_ 19 47 (bA 43 1048575) HT_.out ?_
  refine pw_ 20 48 (bA 43 2097151) HT_.out ?_
  refine pw_ 21 49 (bA 43 4194303) HT_.out ?_
  refine pw_ 22 50 (bA 43 8388607) HT_.out ?_
  refine one_ (i := 23) (N := some 51) (bA 43 16777215) rfl rfl (one_of HT_.out (by kernel_rfl)) (by decide) (fun K hK => ?_)
  refine gw_ Tryz.func28 #[.slice (some ⟨gv, 0, none⟩) 3 3, .slice none 0 0, .slice (some ⟨gl, 0, none⟩) 3 3] ?_
  with_reducible refine (aw_call4 HM18.out).mono ?_
  rintro e w23 ⟨rfl, hb23⟩
  refine ⟨_, rfl, ?_⟩
  have HM23 := Lib.hid (HM18.out.below hb23)
  refine hK.out _ _ ⟨(HM23.out.t.cell 0 rfl), (HM23.out.t.cell 1 rfl)⟩ (fun hHeld => ?_)
  clear hK K
  refine norm_ (a' := ?_) ?_ ?_
  rotate_left
  · show Act.put _ (some 51) _ = _
    simp only [Act.put, pA, pB, pC, pD, pE]; rfl
  refine pw_ 24 52 (bA 43 33554431) HT_.out ?_
  refine pw_ 25 53 (bA 43 67108863) HT_.out ?_
  refine pw_ 26 54 (bA 43 134217727) HT_.out ?_
  refine pw_ 27 55 (bA 43 268435455) HT_.out ?_
  refine pw_ 28 56 (bA 43 536870911) HT_.out ?_
  refine tw_ 29 57 (bA 43 1073741823) HT_.out HW_.out hHeld (hv := by rintro w' ⟨s0, s1⟩; go_simp; with_reducible rfl) (h := ?_)
  refine one_ (i := 30) (N := some 58) (bA 43 2147483647) rfl rfl (one_of HT_.out (by kernel_rfl)) (by decide) (fun K hK => ?_)
  refine gw_ Tryz.func10 #[.slice (some ⟨gv, 0, none⟩) 3 3, .slice (some ⟨ge, 0, none⟩) 2 2, .agg #[.int .i64 1, .slice (some ⟨gd, 0, none⟩) 3 3]] ?_
  with_reducible refine (aw_call5 HM23.out).mono ?_
  rintro e w30 ⟨rfl, hb30⟩
  refine ⟨_, rfl, ?_⟩
  have HM30 := Lib.hid (HM23.out.below hb30)
  refine hK.out _ _ ⟨(HM30.out.t.cell 0 rfl), (HM30.out.t.cell 1 rfl)⟩ (fun hHeld => ?_)
  clear hK K
  refine norm_ (a' := ?_) ?_ ?_
  rotate_left
  · show Act.put _ (some 58) _ = _
    simp only [Act.put, pA, pB, pC, pD, pE]; rfl
  refine pw_ 31 59 (bA 43 4294967295) HT_.out ?_
  refine pw_ 32 60 (bA 43 8589934591) HT_.out ?_
  refine pw_ 33 61 (bA 43 17179869183) HT_.out ?_
  refine pw_ 34 62 (bA 43 34359738367) HT_.out ?_
  refine pw_ 35 63 (bA 43 68719476735) HT_.out ?_
  refine pw_ 36 64 (bA 43 137438953471) HT_.out ?_
  refine tw_ 37 65 (bA 43 274877906943) HT_.out HW_.out hHeld (hv := by rintro w' ⟨s0, s1⟩; go_simp; with_reducible rfl) (h := ?_)
  refine pw_ 38 66 (bA 43 549755813887) HT_.out ?_
  refine one_ (i := 39) (N := some 67) (bA 43 1099511627775) rfl rfl (one_of HT_.out (by kernel_rfl)) (by decide) (fun K hK => ?_)
  refine gw_ Tryz.func10 #[.slice (some ⟨gv, 0, none⟩) 3 3, .slice (some ⟨ge, 0, none⟩) 1 2, .agg #[.int .i64 2, .slice (some ⟨gd, 0, none⟩) 3 3]] ?_
  with_reducible refine (aw_call6 HM30.out).mono ?_
  rintro e w39 ⟨rfl, hb39⟩
  refine ⟨_, rfl, ?_⟩
  have HM39 := Lib.hid (HM30.out.below hb39)
  refine hK.out _ _ ⟨(HM39.out.t.cell 0 rfl), (HM39.out.t.cell 1 rfl)⟩ (fun hHeld => ?_)
  clear hK K
  refine norm_ (a' := ?_) ?_ ?_
  rotate_left
  · show Act.put _ (some 67) _ = _
    simp only [Act.put, pA, pB, pC, pD, pE]; rfl
  refine pw_ 40 68 (bA 43 2199023255551) HT_.out ?_
  refine pw_ 41 69 (bA 43 4398046511103) HT_.out ?_
  refine pw_ 42 0 (bA 43 8796093022207) HT_.out ?_
  refine done_ (done_of HT_.out (by kernel_rfl)) ?_
  clear hHeld HT_ HW_
  have HB := Lib.hid HM39.out.b
  go_wp2
  go_ret
  exact ⟨rfl, HB.out⟩
end Go.Proofs.YtgihncjllelonaaGreat.Ce

/- The laws of cert: cuts. -/
namespace Go.Proofs.YtgihncjllelonaaGreat.Cf
open Go Go.RowKit Go.Proofs.YtgihncjllelonaaGreat.Mem Go.Proofs.YtgihncjllelonaaGreat.Sl Go.Proofs.YtgihncjllelonaaGreat.Scc Go.Proofs.YtgihncjllelonaaGreat.Tj Go.Proofs.YtgihncjllelonaaGreat.Lw Go.Proofs.YtgihncjllelonaaGreatW.PrintWords Go.Proofs.YtgihncjllelonaaGreatW.PrintLast
attribute [local go_sem ↓] Go.wp_at_zero Go.wp_at_succ
set_option linter.unusedSimpArgs false
set_option linter.unusedVariables false
theorem info_edge : (Tryz.prog.info? 74).map (fun i => (i.zero, i.size, i.bytes)) = some (some (.agg #[.int .i64 0, .int .i64 0, .int .i64 0, .int .u32 0]), 4, 32) := by kernel_rfl
set_option maxHeartbeats 4000000 in
theorem cutVs_calls (w : World) (a1 : Value) (n : Nat) (xs : List Value) (h1 : ArgV w a1 n 1 xs) :
    Calls Tryz.prog 8 #[a1] w fun e w' => ∃ v, e = .returned v ∧ One w 3 1 v (min n 30) (xs.take (min n 30 * 1)) w' := by
  obtain ⟨q1, hq1⟩ : ∃ q, min n 30 = q := ⟨_, rfl⟩
  have hsh : ∃ A c, a1 = .slice A n c := by
    obtain ⟨_, _, ⟨rfl, rfl⟩ | ⟨ad, c, rfl, _⟩⟩ := h1
    · exact ⟨none, 0, rfl⟩
    · exact ⟨some ad, c, rfl⟩
  obtain ⟨A1, c1, rfl⟩ := hsh
  obtain ⟨d1, hc1⟩ := h1.take (m := q1) (by omega)
  have e1 : min (n : Int) 30 = (q1 : Int) := by omega
  have g1 : (0 : Int) ≤ (q1 : Int) := by omega
  have g3 : (q1 : Int) ≤ (c1 : Int) := by omega
  have hq : q1 ≤ 1000 := by omega
  obtain ⟨i2, hi2, hz2, hs2, hb2⟩ := info_parts Lw.info_int
  rw [hq1]
  have HD := Lib.hid d1
  clear h1 d1 hq1 hc1
  go_enter Tryz.func8, Tryz.ntmps8
  go_wp2_with ((at_builtin; refine wpList_append_any rfl (.tmp 3) (.tmp 8) 22 rfl w.heap.size 3 i2 (.int .i64 0) 1 8 Tryz.underlying22 hi2 hz2 hs2 hb2 rfl (by omega) _ 0 [] rfl (own_made rfl (Nat.le_refl _)) _ rfl q1 (xs.take (q1 * 1)) (HD.out.below ((Below.refl _ _).alloc (Nat.le_refl _) (.cells #[] 3))) (by unfold maxLen; omega) (by omega) (by simp) ?_; intro v5 w5 ho hg hn; have hone := (One.make (Below.refl _ _) (own_made (T := 3) (size := 1) rfl (Nat.le_refl _)) ((Below.refl w.heap.size w).alloc (Nat.le_refl _) (.cells #[] 3))).grow ho hg; have HO := Lib.hid hone; clear ho hg hn hone))
  go_ret
  refine ⟨_, rfl, ?_⟩
  have := HO.out
  rw [Nat.zero_add] at this
  exact this


set_option maxHeartbeats 4000000 in
theorem cutEdges_calls (w : World) (a1 : Value) (n : Nat) (xs : List Value) (h1 : ArgV w a1 n 4 xs) :
    Calls Tryz.prog 9 #[a1] w fun e w' => ∃ v, e = .returned v ∧ One w 74 4 v (min n 120) (xs.take (min n 120 * 4)) w' := by
  obtain ⟨q1, hq1⟩ : ∃ q, min n 120 = q := ⟨_, rfl⟩
  have hsh : ∃ A c, a1 = .slice A n c := by
    obtain ⟨_, _, ⟨rfl, rfl⟩ | ⟨ad, c, rfl, _⟩⟩ := h1
    · exact ⟨none, 0, rfl⟩
    · exact ⟨some ad, c, rfl⟩
  obtain ⟨A1, c1, rfl⟩ := hsh
  obtain ⟨d1, hc1⟩ := h1.take (m := q1) (by omega)
  have e1 : min (n : Int) 120 = (q1 : Int) := by omega
  have g1 : (0 : Int) ≤ (q1 : Int) := by omega
  have g3 : (q1 : Int) ≤ (c1 : Int) := by omega
  have hq : q1 ≤ 1000 := by omega
  obtain ⟨i2, hi2, hz2, hs2, hb2⟩ := info_parts info_edge
  rw [hq1]
  have HD := Lib.hid d1
  clear h1 d1 hq1 hc1
  go_enter Tryz.func9, Tryz.ntmps9
  go_wp2_with ((at_builtin; refine wpList_append_any rfl (.tmp 3) (.tmp 8) 23 rfl w.heap.size 74 i2 (.agg #[.int .i64 0, .int .i64 0, .int .i64 0, .int .u32 0]) 4 32 Tryz.underlying23 hi2 hz2 hs2 hb2 rfl (by omega) _ 0 [] rfl (own_made rfl (Nat.le_refl _)) _ rfl q1 (xs.take (q1 * 4)) (HD.out.below ((Below.refl _ _).alloc (Nat.le_refl _) (.cells #[] 74))) (by unfold maxLen; omega) (by omega) (by simp) ?_; intro v5 w5 ho hg hn; have hone := (One.make (Below.refl _ _) (own_made (T := 74) (size := 4) rfl (Nat.le_refl _)) ((Below.refl w.heap.size w).alloc (Nat.le_refl _) (.cells #[] 74))).grow ho hg; have HO := Lib.hid hone; clear ho hg hn hone))
  go_ret
  refine ⟨_, rfl, ?_⟩
  have := HO.out
  rw [Nat.zero_add] at this
  exact this

end Go.Proofs.YtgihncjllelonaaGreat.Cf

/- brambleref15: Parts. -/
namespace Go.Proofs.YtgihncjllelonaaGreat.Ce
open Go Go.RowKit Go.MapKept Go.Proofs.YtgihncjllelonaaGreat.Mem Go.Proofs.YtgihncjllelonaaGreat.Sl Go.Proofs.YtgihncjllelonaaGreat.Lw Go.Proofs.YtgihncjllelonaaGreat.Tb Go.Proofs.YtgihncjllelonaaGreat.Scc Go.Proofs.YtgihncjllelonaaGreat.Tj Go.Proofs.YtgihncjllelonaaGreatW.PrintWords Go.Proofs.YtgihncjllelonaaGreatW.PrintLast
attribute [local go_sem ↓] Go.wp_at_zero Go.wp_at_succ
set_option linter.unusedSimpArgs false
set_option linter.unusedVariables false

def RefPartsPost (w : World) (code : Nat) (gs comps : List (List Int)) (e : Ending) (w' : World) : Prop := ∃ b : Bool, e = .returned (.bool b) ∧ (b = true ↔ (code = 0 ∧ gs.length = comps.length ∧ ∀ g ∈ gs, (comps.map sorted).count g = 1)) ∧ Below w.heap.size w w'
theorem RefPartsPost.of {w w' : World} {code : Nat} {gs comps : List (List Int)} {e : Ending} (b : Bool) (he : e = .returned (.bool b)) (h : b = true ↔ (code = 0 ∧ gs.length = comps.length ∧ ∀ g ∈ gs, (comps.map sorted).count g = 1)) (hb : Below w.heap.size w w') : RefPartsPost w code gs comps e w' := ⟨b, he, h, hb⟩
end Go.Proofs.YtgihncjllelonaaGreat.Ce

/- CertParts, walked. -/
namespace Go.Proofs.YtgihncjllelonaaGreat.Ce
open Go Go.RowKit Go.MapKept Go.Proofs.YtgihncjllelonaaGreat.Mem Go.Proofs.YtgihncjllelonaaGreat.Sl Go.Proofs.YtgihncjllelonaaGreat.Lw Go.Proofs.YtgihncjllelonaaGreat.Tb Go.Proofs.YtgihncjllelonaaGreat.Scc Go.Proofs.YtgihncjllelonaaGreat.Tj Go.Proofs.YtgihncjllelonaaGreat.Cf Go.Proofs.YtgihncjllelonaaGreatW.PrintWords Go.Proofs.YtgihncjllelonaaGreatW.PrintLast
attribute [local go_sem ↓] Go.wp_at_zero Go.wp_at_succ
set_option linter.unusedSimpArgs false
set_option linter.unusedVariables false

theorem min_take {α : Type} (l : List α) (k : Nat) : l.take (min l.length k) = l.take k := by
  rcases Nat.le_total l.length k with h | h
  · rw [Nat.min_eq_left h, List.take_of_length_le (Nat.le_refl _), List.take_of_length_le h]
  · rw [Nat.min_eq_right h]
end Go.Proofs.YtgihncjllelonaaGreat.Ce

/- CertOwn: what lies in memory. -/
namespace Go.Proofs.YtgihncjllelonaaGreat.Ce
open Go Go.RowKit Go.MapKept Go.Proofs.YtgihncjllelonaaGreat.Mem Go.Proofs.YtgihncjllelonaaGreat.Sl Go.Proofs.YtgihncjllelonaaGreat.Lw Go.Proofs.YtgihncjllelonaaGreat.Wt Go.Proofs.YtgihncjllelonaaGreat.Tb Go.Proofs.YtgihncjllelonaaGreat.Scc Go.Proofs.YtgihncjllelonaaGreat.Tj
set_option linter.unusedSimpArgs false
set_option linter.unusedVariables false

def RdLV (w : World) (A : Option Addr) (ls : List (List Int)) : Prop := ∀ (i : Nat) (r : List Int), ls[i]? = some r → ∃ b off B c, A = some ⟨b, off, none⟩ ∧ w.cell? ⟨b, off + i, none⟩ = some (.slice B r.length c) ∧ RdO w B r ∧ (B = none → c = 0) ∧ r.length ≤ 1048576
theorem RdLV.below {w w' : World} {A : Option Addr} {ls : List (List Int)} (h : RdLV w A ls) (hb : Below w.heap.size w w') : RdLV w' A ls := fun i r hr => by
  obtain ⟨b, off, B, c, h1, h2, h3, h4⟩ := h i r hr
  exact ⟨b, off, B, c, h1, cell_below hb h2, h3.below hb, h4⟩
def RdLC (w : World) (A : Option Addr) (ls : List (List Int)) : Prop := ∀ (i : Nat) (r : List Int), ls[i]? = some r → ∃ b B c, A = some ⟨b, 0, none⟩ ∧ w.cell? ⟨b, i, none⟩ = some (.slice B r.length c) ∧ RdI w B r ∧ r.length ≤ c
theorem RdLC.below {w w' : World} {A : Option Addr} {ls : List (List Int)} (h : RdLC w A ls) (hb : Below w.heap.size w w') : RdLC w' A ls := fun i r hr => by
  obtain ⟨b, B, c, h1, h2, h3, h4⟩ := h i r hr
  exact ⟨b, B, c, h1, cell_below hb h2, h3.below hb, h4⟩
structure InS (w4 W : World) (comps : List (List Int)) (v10 : Value) (vals : List Value) (j : Nat) : Prop where
  o : One w4 22 1 v10 j vals W
  r : ∀ (i : Nat) (v : Value), vals[i]? = some v → ∃ r A c, comps[i]? = some r ∧ v = .slice A r.length c ∧ RdI w4 A r
theorem InS.push {w4 W W' : World} {comps : List (List Int)} {v10 v' x : Value} {vals : List Value} {j : Nat} {r : List Int} {A : Option Addr} {c : Nat} (h : InS w4 W comps v10 vals j) (hx : comps[j]? = some r) (he : x = .slice A r.length c) (hr : RdI w4 A r) (ho : W'.ownsRow w4.heap.size 22 1 v' (j + 1) (vals ++ [x])) (hg : W.grownBy W' v10.ownBlock) : InS w4 W' comps v' (vals ++ [x]) (j + 1) := by
  have hl := h.o.r.1
  refine ⟨h.o.grow ho hg, fun i v hv => ?_⟩
  by_cases hi : i < vals.length
  · rw [List.getElem?_append_left hi] at hv
    exact h.r i v hv
  · rw [List.getElem?_append_right (by omega)] at hv
    obtain ⟨k, hk⟩ : ∃ k, i - vals.length = k := ⟨_, rfl⟩
    rw [hk] at hv
    cases k with
    | succ k => simp at hv
    | zero =>
      cases hv
      have : i = j := by omega
      subst this
      exact ⟨r, A, c, hx, he, hr⟩
structure OwM (w W : World) (Ac A2 A3 A7 A10 : Option Addr) (g12 g13 : Nat) (L : List Int) (E : List Ed) (comps : List (List Int)) : Prop where
  cs : RdLV W Ac comps
  vs : RdI W A2 L
  es : RdD W A3 E
  fu : RdLC W A7 (comps.map (· ++ [-7]))
  ins : RdLO W A10 comps
  ar : RdA W (some ⟨g12, 0, none⟩) (ends E ++ [(5, 6)])
  ns : RdI W (some ⟨g13, 0, none⟩) (L ++ [8])
  b : Below w.heap.size w W
theorem OwM.below {w W W' : World} {Ac A2 A3 A7 A10 : Option Addr} {g12 g13 : Nat} {L : List Int} {E : List Ed} {comps : List (List Int)} (h : OwM w W Ac A2 A3 A7 A10 g12 g13 L E comps) (hb : Below W.heap.size W W') : OwM w W' Ac A2 A3 A7 A10 g12 g13 L E comps :=
  ⟨h.cs.below hb, h.vs.below hb, h.es.below hb, h.fu.below hb, h.ins.below hb, h.ar.below hb, h.ns.below hb, h.b.trans (hb.mono h.b.size)⟩
theorem edsC_take : ∀ (l : List Ed) (q : Nat), (edsC l).take (q * 4) = edsC (l.take q)
  | [], q => by simp [edsC]
  | p :: l, 0 => by simp [edsC]
  | p :: l, q + 1 => by
    rw [edsC_cons, show (q + 1) * 4 = q * 4 + 1 + 1 + 1 + 1 by omega, List.take_succ_cons, List.take_succ_cons, List.take_succ_cons, List.take_succ_cons, edsC_take l q, List.take_succ_cons, edsC_cons]
end Go.Proofs.YtgihncjllelonaaGreat.Ce

/- Lists of lists with what bounds them, edges, distances and trees as arguments. -/
namespace Go.Proofs.YtgihncjllelonaaGreat.Ce
open Go Go.RowKit Go.ChangeShapes Go.WideShapes Go.ChangeAt Go.Deep Go.Proofs.YtgihncjllelonaaGreat.Mem Go.Proofs.YtgihncjllelonaaGreat.Lw Go.Proofs.YtgihncjllelonaaGreat.Tb
set_option linter.unusedSimpArgs false
set_option linter.unusedVariables false

section
variable {H : Type} {enc : TypeId × Value → H} {W : World} {base : Nat} {v : Value} {d : DataW H} {p : List MemPlace}
theorem cells_edge : Tryz.prog.cellsOf 74 = 4 := by kernel_rfl
theorem cells_u32 : Tryz.prog.cellsOf 72 = 1 := by kernel_rfl
theorem edge_fields : ∃ f0 f1 f2 f3 : Field, Tryz.prog.underlying 74 = some (.struct #[f0, f1, f2, f3]) ∧ (f0.offset = 0 ∧ f1.offset = 1 ∧ f2.offset = 2 ∧ f3.offset = 3) ∧ f0.type = 3 ∧ f1.type = 3 ∧ f2.type = 3 ∧ f3.type = 72 :=
  ⟨_, _, _, _, Tryz.underlying74, ⟨rfl, rfl, rfl, rfl⟩, rfl, rfl, rfl, rfl⟩
theorem u32_nat {x : Int} (h : (Lit.int .u32 x).wf = true) : ∃ n : Nat, x = (n : Int) ∧ n < 4294967296 := by
  have h1 : IntKind.u32.min ≤ x ∧ x ≤ IntKind.u32.max := by simpa [Lit.wf] using h
  have h2 : (0 : Int) ≤ x ∧ x ≤ 4294967295 := h1
  exact ⟨x.toNat, by omega, by omega⟩
theorem edsC_one (l : List Ed) : ∀ u ∈ edsC l, u.oneCell' = true := by
  induction l with
  | nil => simp [edsC]
  | cons p l ih =>
    intro u hu
    rw [edsC_cons] at hu
    simp at hu
    rcases hu with rfl | rfl | rfl | rfl | hu
    · rfl
    · rfl
    · rfl
    · rfl
    · exact ih u hu
set_option maxRecDepth 100000 in
theorem edges_in (hv : Value.okWide Tryz.prog W .any base 23 v) (h : DataW.Trod enc Tryz.prog W 0 (fun _ => true) true 23 v d p) : ∃ l : List Ed, ArgV W v l.length 4 (edsC l) ∧ ∀ p ∈ l, p.2.2.2 < 4294967296 := by
  obtain ⟨a0, len, cap, rfl⟩ := okWide_slice Tryz.underlying23 hv
  obtain ⟨fuel, hf⟩ := h
  obtain ⟨f0, f1, f2, f3, hu, ⟨o0, o1, o2, o3⟩, t0, t1, t2, t3⟩ := edge_fields
  rcases open_slice Tryz.underlying23 hf with ⟨hcs, hx⟩ | ⟨a, len', cap', m, n, D, Pl, hcs, _, hl, hm, hmm, hx, hcell⟩
  · simp [Value.cells] at hcs
    obtain ⟨rfl, rfl, rfl⟩ := hcs
    exact ⟨[], ⟨rfl, by simp [edsC], .inl ⟨rfl, rfl⟩⟩, fun p hp => by cases hp⟩
  · simp [Value.cells] at hcs
    obtain ⟨rfl, rfl, rfl⟩ := hcs
    simp only [if_true] at hmm
    have num : ∀ i, i < m → ∃ q : Ed, q.2.2.2 < 4294967296 ∧ W.cell? (a.add (i * 4)) = some (.int .i64 q.1) ∧ W.cell? (a.add (i * 4 + 1)) = some (.int .i64 q.2.1) ∧ W.cell? (a.add (i * 4 + 2)) = some (.int .i64 q.2.2.1) ∧ W.cell? (a.add (i * 4 + 3)) = some (.int .u32 (q.2.2.2 : Int)) := by
      intro i hi
      obtain ⟨cs', h1, h2⟩ := hcell i hi
      rw [cells_edge] at h1
      obtain ⟨_, hlen, hc⟩ := World.cells?_some h1
      obtain ⟨xs, k, hk, hxy, _, hxl, hf⟩ := DataW.trod_struct hu h2
      match xs, hxl, cs', hlen with
      | [y0, y1, y2, y3], _, [v0, v1, v2, v3], _ =>
        have g0 := hf 0 f0 rfl
        have g1 := hf 1 f1 rfl
        have g2 := hf 2 f2 rfl
        have g3 := hf 3 f3 rfl
        simp [o0, o1, o2, o3, t0, t1, t2, t3, cells_int, cells_u32] at g0 g1 g2 g3
        have e0 := hc 0 (by omega)
        have e1 := hc 1 (by omega)
        have e2 := hc 2 (by omega)
        have e3 := hc 3 (by omega)
        rw [Go.Deep.add_add] at e0 e1 e2 e3
        obtain ⟨x0, hx0, _⟩ := DataW.trod_int Tryz.underlying3 g0
        obtain ⟨x1, hx1, _⟩ := DataW.trod_int Tryz.underlying3 g1
        obtain ⟨x2, hx2, _⟩ := DataW.trod_int Tryz.underlying3 g2
        obtain ⟨x3, hx3, _, hw3⟩ := DataW.trod_int Tryz.underlying72 g3
        cases hx0
        cases hx1
        cases hx2
        cases hx3
        obtain ⟨b, rfl, hb⟩ := u32_nat hw3
        exact ⟨(x0, x1, x2, b), hb, by simpa using e0, by simpa using e1, by simpa using e2, by simpa using e3⟩
    obtain ⟨q, hq⟩ := choose_lt num
    have hlen : ((List.range len).map q).length = len := by simp
    refine ⟨(List.range len).map q, ⟨edsC_length _, edsC_one _, .inr ⟨a, cap, by rw [hlen], by rw [hlen]; exact hl, fun j u hu => ?_⟩⟩, fun p hp => ?_⟩
    · have hj : j < len * 4 := by
        have := (List.getElem?_eq_some_iff.1 hu).1
        rw [edsC_length, hlen] at this
        exact this
      have hget : ((List.range len).map q)[j / 4]? = some ((q (j / 4)).1, (q (j / 4)).2.1, (q (j / 4)).2.2.1, (q (j / 4)).2.2.2) := by
        rw [List.getElem?_map, List.getElem?_range (by omega)]
        rfl
      obtain ⟨s0, s1, s2, s3⟩ := edsC_at _ _ _ _ _ _ hget
      obtain ⟨_, h0, h1, h2, h3⟩ := hq (j / 4) (by omega)
      have h4 : j % 4 = 0 ∨ j % 4 = 1 ∨ j % 4 = 2 ∨ j % 4 = 3 := by omega
      rcases h4 with h | h | h | h
      · rw [show j / 4 * 4 = j by omega] at s0 h0
        rw [h0, ← hu, s0]
      · rw [show j / 4 * 4 + 1 = j by omega] at s1 h1
        rw [h1, ← hu, s1]
      · rw [show j / 4 * 4 + 2 = j by omega] at s2 h2
        rw [h2, ← hu, s2]
      · rw [show j / 4 * 4 + 3 = j by omega] at s3 h3
        rw [h3, ← hu, s3]
    · obtain ⟨i, hi, rfl⟩ := List.mem_map.1 hp
      exact (hq i (by have := List.mem_range.1 hi; omega)).1
end
end Go.Proofs.YtgihncjllelonaaGreat.Ce
