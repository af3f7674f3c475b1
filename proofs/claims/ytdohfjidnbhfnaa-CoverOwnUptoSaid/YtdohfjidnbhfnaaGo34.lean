/- brambleref11.Build, walked. -/
import Derived.Test.YtdohfjidnbhfnaaGo33
namespace Go.Proofs.Ytdohfjidnbhfnaa.Rb
open Go Go.RowKit Go.Proofs.Ytdohfjidnbhfnaa.Mem Go.Proofs.Ytdohfjidnbhfnaa.Sl Go.Proofs.Ytdohfjidnbhfnaa.Scc Go.Proofs.Ytdohfjidnbhfnaa.Tj Go.Proofs.Ytdohfjidnbhfnaa.Lw Go.Proofs.Ytdohfjidnbhfnaa.Cv Go.Proofs.YtdohfjidnbhfnaaW.PrintWords Go.Proofs.YtdohfjidnbhfnaaW.PrintLast
attribute [local go_sem ↓] Go.wp_at_zero Go.wp_at_succ
set_option linter.unusedSimpArgs false
set_option linter.unusedVariables false

def RefPost (w : World) (n : Nat) (arcs : List (Int × Int)) (mm : Nat) (e : Ending) (w' : World) : Prop :=
  Below w.heap.size w w' ∧ ((¬ Cv.Good n arcs ∧ e = .returned (.tuple #[cV none 0 0 none 0 0 none 0 0 none 0 0 none 0 0, .int .i64 1])) ∨ (Cv.Good n arcs ∧ acyB arcs mm n = false ∧ e = .returned (.tuple #[cV none 0 0 none 0 0 none 0 0 none 0 0 none 0 0, .int .i64 110])) ∨
    (Cv.Good n arcs ∧ acyB arcs mm n = true ∧ ∃ A AE AP AQ AR c ce cp cq cr, e = .returned (.tuple #[cV A n c AE arcs.length ce AP n cp AQ n cq AR n cr, .int .i64 0]) ∧ RefC w' n A AE AP AQ AR arcs (parsOf n arcs) (postsOf n (parsOf n arcs)) (PE (rng n) arcs)))

theorem cover_ret {W : World} {gr p q : Nat} {Post : Ending → World → Prop} {a0 a1 a2 a3 a4 a5 a6 : Value} (fn : Func) (tmps : Array Value) (h : At W gr zC 30)
    (hp : tmps.getD p undef = .pointer (some ⟨gr, 0, none⟩)) (hf : fn.results = #[.cell p 30, .tmp q])
    (hR : Off gr W (((((((W.setCell ⟨gr, 0, none⟩ a0).setCell ⟨gr, 1, none⟩ a1).setCell ⟨gr, 2, none⟩ a2).setCell ⟨gr, 3, none⟩ a3).setCell ⟨gr, 4, none⟩ a4).setCell ⟨gr, 5, none⟩ a5).setCell ⟨gr, 6, none⟩ a6) → Post (.returned (.tuple #[.agg #[a0, a1, a2, a3, a4, a5, a6], tmps.getD q undef])) (((((((W.setCell ⟨gr, 0, none⟩ a0).setCell ⟨gr, 1, none⟩ a1).setCell ⟨gr, 2, none⟩ a2).setCell ⟨gr, 3, none⟩ a3).setCell ⟨gr, 4, none⟩ a4).setCell ⟨gr, 5, none⟩ a5).setCell ⟨gr, 6, none⟩ a6)) :
    bodyPost Try.prog fn Post .ret { tmps := tmps, defers := [] } (((((((W.setCell ⟨gr, 0, none⟩ a0).setCell ⟨gr, 1, none⟩ a1).setCell ⟨gr, 2, none⟩ a2).setCell ⟨gr, 3, none⟩ a3).setCell ⟨gr, 4, none⟩ a4).setCell ⟨gr, 5, none⟩ a5).setCell ⟨gr, 6, none⟩ a6) := by
  have ha : At (((((((W.setCell ⟨gr, 0, none⟩ a0).setCell ⟨gr, 1, none⟩ a1).setCell ⟨gr, 2, none⟩ a2).setCell ⟨gr, 3, none⟩ a3).setCell ⟨gr, 4, none⟩ a4).setCell ⟨gr, 5, none⟩ a5).setCell ⟨gr, 6, none⟩ a6) gr [a0, a1, a2, a3, a4, a5, a6] 30 := ((((((h.set 0 a0).set 1 a1).set 2 a2).set 3 a3).set 4 a4).set 5 a5).set 6 a6
  exact bodyPost_ret (results_ct hf tmps _ gr 30 #[a0, a1, a2, a3, a4, a5, a6] (0, 0) _ hp ha Try.underlying30 rfl (by kernel_rfl)) rfl (hR (((((((Off.refl gr W).set 0 a0).set 1 a1).set 2 a2).set 3 a3).set 4 a4).set 5 a5 |>.set 6 a6))

def tb15_13.T13 : Bool × List (List Nat × List Nat) := (true, [([], []), ([0], [0]), ([1], [1]), ([], []), ([3], [3]), ([], []), ([], []), ([5, 6], [5, 6]), ([7], [7]), ([8], [8]), ([], []), ([], []), ([10, 11], [10, 11]), ([12], [12]), ([13], [13]), ([4, 9, 14], [4, 9, 14]), ([15], [15]), ([2, 16], [2, 16]), ([0, 1, 2, 3, 4, 5, 6, 7, 8, 9, 10, 11, 12, 13, 14, 15, 16, 17], []), ([18, 0, 1, 2, 3, 4, 5, 6, 7, 8, 9, 10, 11, 12, 13, 14, 15, 16, 17], [18]), ([19, 17, 17, 0, 1, 2, 3, 4, 5, 6, 7, 8, 9, 10, 11, 12, 13, 14, 15, 16, 17], [17, 19])])
def tb15_13.B13 : List Nat := [0, 1, 3, 0, 8, 0, 0, 96, 224, 480, 0, 0, 3072, 7168, 15360, 32760, 65528, 131071, 262143, 524287, 1048575]
theorem tb15_13.tab13 : rtab .any (opsOf Try.f15 13) = tb15_13.T13 := by kernel_rfl
theorem tb15_13.bits13 : waitsOk tb15_13.T13.2 tb15_13.B13 = true := by kernel_rfl
def tb15_31.T31 : Bool × List (List Nat × List Nat) := (true, [([], []), ([0], [0]), ([], []), ([], []), ([2, 3], [2, 3]), ([4], [4]), ([], []), ([6], [6]), ([1, 5, 0, 1, 2, 3, 4, 5, 6, 7], [1, 5]), ([8, 7, 0, 1, 2, 3, 4, 5, 6, 7], [7, 8])])
def tb15_31.B31 : List Nat := [0, 1, 0, 0, 12, 28, 0, 64, 255, 511]
theorem tb15_31.tab31 : rtab .any (opsOf Try.f15 31) = tb15_31.T31 := by kernel_rfl
theorem tb15_31.bits31 : waitsOk tb15_31.T31.2 tb15_31.B31 = true := by kernel_rfl
set_option maxHeartbeats 32000000 in
set_option maxRecDepth 100000 in
theorem refbuild_calls (w : World) (n : Nat) (Aa : Option Addr) (ca mm : Nat) (arcs : List (Int × Int)) (comp : List Nat) (ha : RdA w Aa arcs) (hn : n ≤ 256) (hm : arcs.length ≤ 100000)
    (hco : Cv.Good n arcs → CompOf n (PE (rng n) arcs) comp mm) (hrk : Cv.Good n arcs → acyB arcs mm n = true → ∃ rk, Rk n (parsOf n arcs) rk) :
    Calls Try.prog 15 #[.int .i64 (n : Int), .slice Aa arcs.length ca] w fun e w' => RefPost w n arcs mm e w' := by
  obtain ⟨i1, hi1, hz1, hs1, hy1⟩ := info_parts Lw.info_int
  obtain ⟨i4, hi4, hz4, hs4, hy4⟩ := info_parts Lw.info_edge
  have e1 : decide ((n : Int) < 0) = false := by simp
  have e2 : decide ((n : Int) > 256) = false := by simp; omega
  have HA := Lib.hid ha
  have HCO := Lib.hid (And.intro hco hrk)
  obtain ⟨m, hlen⟩ : ∃ m, arcs.length = m := ⟨_, rfl⟩
  rw [hlen] at hm ⊢
  have HM := Lib.hid hlen
  clear ha hlen hco hrk
  go_enter Try.func15, Try.ntmps15
  go_wp2
  refine gen_loopw (fun W => BS w w.heap.size (w.heap.size + 1) zC W) ?_ ?_
  · refine ⟨?_, ?_, by omega, Nat.le_refl _, by omega, ?_⟩
    · repeat (first | refine At.off ?_ (by omega) | exact (At.made rfl rfl).al)
    · repeat (first | refine At.put (cs := zC) ?_ rfl | exact At.made (by simp) rfl)
    · repeat (first | refine Below.setCell ?_ (by dsimp only; omega) _ | exact ((Below.refl _ _).alloc (Nat.le_refl _) _).alloc (by simp) _)
  obtain ⟨gr, hgr⟩ : ∃ gr, w.heap.size = gr := ⟨_, rfl⟩
  obtain ⟨gx, hgx⟩ : ∃ gx, gr + 1 = gx := ⟨_, rfl⟩
  rw [hgr, hgx]
  clear hgr hgx e1 e2
  intro w1 h1
  have H1 := Lib.hid h1
  clear h1
  go_loopg [7] n (fun kq v7 w' => ∃ i : Nat, v7 = .int .i64 (i : Int) ∧ Hid (i + kq = n ∧ ∃ vA, BS w gr gx [vA, .slice none 0 0, .int .i64 0, .int .i64 0, .slice none 0 0, .slice none 0 0, .slice none 0 0] w' ∧ w'.ownsRow w.heap.size 3 1 vA i (ints (rng i))))
  case atStart => exact ⟨0, rfl, Lib.hid ⟨by omega, _, H1.out, World.ownsRow_nil _ _ _ _⟩⟩
  case round =>
    clear H1
    obtain ⟨i, rfl, hI⟩ := hrel
    obtain ⟨hik, vA, hB, hR⟩ := hI.out
    clear hI
    by_cases hi : i < n
    · obtain ⟨k1, rfl⟩ : ∃ k1, gk = k1 + 1 := ⟨gk - 1, by omega⟩
      have c0 := hB.x.cell 0 rfl
      have i0 : (0 : Int) ≤ (i : Int) := by omega
      have i1' : (i : Int) < (n : Int) := by omega
      have i2 : (n : Int) ≤ 256 := by omega
      have HBS := Lib.hid hB
      have HR := Lib.hid hR
      clear hB hR
      go_wp2_with ((at_builtin; (refine wpList_append_any rfl (.tmp 29) (.tmp 31) 24 rfl w.heap.size 3 i1 (.int .i64 0) 1 8 Try.underlying24 hi1 hz1 hs1 hy1 rfl (by omega) _ _ _ rfl (HR.out.alloc (.cells #[.int .i64 (i : Int)] 3)) _ rfl 1 [.int .i64 (i : Int)] (RdV.lit _ #[.int .i64 (i : Int)] 3 1 1 1 rfl (by simp [Value.oneCell'])) (by unfold maxLen; omega) (by omega) (by have := HBS.out.b.size; simp; omega) ?_; intro v5 w5 ho hg hn; obtain ⟨A5, c5, rfl⟩ := Lw.own_slice ho; have hbs := (HBS.out.al (o := (.cells #[.int .i64 (i : Int)] 3))).grown (HR.out.alloc (.cells #[.int .i64 (i : Int)] 3)) (Nat.le_refl _) (by decide) hg; have c0 := hbs.x.cell 0 rfl; have f0 := hbs.x.free 0; have HB5 := Lib.hid hbs; have HR5 := Lib.hid ho; clear ho hg hn hbs HR HBS)))
      go_roundg k1
      case measure => omega
      case rel =>
        refine ⟨i + 1, by go_num, Lib.hid ⟨by omega, _, HB5.out.put 0 _, ?_⟩⟩
        rw [rng_succ, ints_append]
        exact own_beside HR5.out HB5.out.x (by decide)
    · obtain rfl : n = i := by omega
      have HB0 := Lib.hid hB
      have HR0 := Lib.hid hR
      clear hB hR hi hik
      go_wp2
      go_loopg [8] m (fun kq v8 w' => ∃ j : Nat, v8 = .int .i64 (j : Int) ∧ Hid (j + kq = m ∧ Cv.Good n (arcs.take j) ∧ ∃ vE xs, BS w gr gx [vA, vE, .int .i64 0, .int .i64 0, .slice none 0 0, .slice none 0 0, .slice none 0 0] w' ∧ w'.ownsRow w.heap.size 3 1 vA n (ints (rng n)) ∧ w'.ownsRow w.heap.size 36 4 vE j xs ∧ EdD (arcs.take j) xs))
      case atStart => exact ⟨0, rfl, Lib.hid ⟨by omega, by intro p hp; simp at hp, _, [], HB0.out, HR0.out, World.ownsRow_nil _ _ _ _, EdD.nil⟩⟩
      case round =>
        clear HB0 HR0
        obtain ⟨j, rfl, hI⟩ := hrel
        obtain ⟨hjk, hgd, vE, xs, hB, hVA, hE, hxs⟩ := hI.out
        clear hI
        by_cases hj : j < m
        · obtain ⟨k1, rfl⟩ : ∃ k1, gk = k1 + 1 := ⟨gk - 1, by omega⟩
          have hjl : j < arcs.length := by rw [HM.out]; exact hj
          obtain ⟨⟨u, v⟩, hxx⟩ : ∃ x, arcs[j] = x := ⟨_, rfl⟩
          have hx : arcs[j]? = some (u, v) := by rw [List.getElem?_eq_getElem hjl, hxx]
          obtain ⟨ba, rfl, qu, qv⟩ := (HA.out.below hB.b) j u v hx
          have j0 : (0 : Int) ≤ (j : Int) := by omega
          have j1 : (j : Int) < (m : Int) := by omega
          have j2 : (m : Int) ≤ 100000 := by omega
          have i2 : (n : Int) ≤ 256 := by omega
          by_cases hok : 0 ≤ u ∧ u < n ∧ 0 ≤ v ∧ v < n
          · obtain ⟨o1, o2, o3, o4⟩ := hok
            have q1 := hB.x.cell 1 rfl
            have htk : arcs.take (j + 1) = arcs.take j ++ [(u, v)] := by rw [List.take_add_one, hx]; rfl
            have hgd2 : Cv.Good n (arcs.take (j + 1)) := by
              rw [htk]
              intro p hp
              rcases List.mem_append.1 hp with hp | hp
              · exact hgd p hp
              · obtain rfl : p = (u, v) := by simpa using hp
                exact ⟨o1, o2, o3, o4⟩
            obtain ⟨l0, hl0⟩ : ∃ l0, arcs.take j = l0 := ⟨_, rfl⟩
            have hl0n : l0.length = j := by rw [← hl0, List.length_take]; omega
            rw [hl0] at hxs htk
            have HB := Lib.hid hB
            have HVA := Lib.hid hVA
            have HE := Lib.hid hE
            have HXS := Lib.hid hxs
            have HTK := Lib.hid htk
            have HGD := Lib.hid hgd2
            have HL0 := Lib.hid hl0n
            have e4 : ∀ z : Int, z = (j : Int) + 1 → wrap64 z = z := fun z hz => by subst hz; unfold wrap64; omega
            clear hB hVA hE hxs htk hgd hgd2 hl0 hl0n hx hxx hjl
            go_upto_region 13 with (fail)
            refine start_ (n := 21) (S := fun w' => w'.cell? ⟨gx, 1, none⟩ = some vE ∧ w'.cell? ⟨ba, j * 2, none⟩ = some (.int .i64 u) ∧ w'.cell? ⟨ba, j * 2 + 1, none⟩ = some (.int .i64 v)) (ds := [17, 20]) (bA 21 0) (by kernel_rfl) rfl rfl ⟨q1, qu, qv⟩ (fun hHeld => ?_)
            refine with_tabW tb15_13.tab13 tb15_13.bits13 (fun HT_ HW_ => ?_)
            refine pure_ (i := 0) (N := some 74) (v := ?_) (a' := ?_) (bA 21 1) rfl rfl (any_of HT_.out (by kernel_rfl)) (fun _ _ _ h => h) (Or.inl ⟨by rfl, ?_⟩) ?_ ?_
            rotate_left; · intro w'; go_simp; with_reducible rfl
            rotate_left; · simp only [Act.put, pA, pB, pC, pD, pE]; rfl
            refine pure_ (i := 1) (N := some 75) (v := ?_) (a' := ?_) (bA 21 3) rfl rfl (any_of HT_.out (by kernel_rfl)) (fun _ _ _ h => h) (Or.inl ⟨by rfl, ?_⟩) ?_ ?_
            rotate_left; · intro w'; go_simp; with_reducible rfl
            rotate_left; · simp only [Act.put, pA, pB, pC, pD, pE]; rfl
            refine pure_ (i := 3) (N := some 77) (v := ?_) (a' := ?_) (bA 21 11) rfl rfl (any_of HT_.out (by kernel_rfl)) (fun _ _ _ h => h) (Or.inl ⟨by rfl, ?_⟩) ?_ ?_
            rotate_left; · intro w'; go_simp; with_reducible rfl
            rotate_left; · simp only [Act.put, pA, pB, pC, pD, pE]; rfl
            refine pure_ (i := 4) (N := some 78) (v := ?_) (a' := ?_) (bA 21 27) rfl rfl (any_of HT_.out (by kernel_rfl)) (fun _ _ _ h => h) (Or.inl ⟨by rfl, ?_⟩) ?_ ?_
            rotate_left; · intro w'; go_simp; with_reducible rfl
            rotate_left; · simp only [Act.put, pA, pB, pC, pD, pE]; rfl
            refine pure_ (i := 5) (N := some 79) (v := ?_) (a' := ?_) (bA 21 59) rfl rfl (any_of HT_.out (by kernel_rfl)) (fun _ _ _ h => h) (Or.inl ⟨by rfl, ?_⟩) ?_ ?_
            rotate_left; · intro w'; go_simp; with_reducible rfl
            rotate_left; · simp only [Act.put, pA, pB, pC, pD, pE]; rfl
            refine pure_ (i := 6) (N := some 80) (v := ?_) (a' := ?_) (bA 21 123) rfl rfl (any_of HT_.out (by kernel_rfl)) (fun _ _ _ h => h) (Or.inl ⟨by rfl, ?_⟩) ?_ ?_
            rotate_left; · intro w'; go_simp; with_reducible rfl
            rotate_left; · simp only [Act.put, pA, pB, pC, pD, pE]; rfl
            refine pure_ (i := 7) (N := some 81) (v := ?_) (a' := ?_) (bA 21 251) rfl rfl (any_of HT_.out (by kernel_rfl)) (fun _ _ _ h => h) (Or.inl ⟨by rfl, ?_⟩) ?_ ?_
            rotate_left; · intro w'; go_simp; with_reducible rfl
            rotate_left; · simp only [Act.put, pA, pB, pC, pD, pE]; rfl
            refine pure_ (i := 8) (N := some 82) (v := ?_) (a' := ?_) (bA 21 507) rfl rfl (any_of HT_.out (by kernel_rfl)) (fun _ _ _ h => h) (Or.inl ⟨by rfl, ?_⟩) ?_ ?_
            rotate_left; · intro w'; go_simp; with_reducible rfl
            rotate_left; · simp only [Act.put, pA, pB, pC, pD, pE]; rfl
            refine pure_ (i := 10) (N := some 84) (v := ?_) (a' := ?_) (bA 21 1531) rfl rfl (any_of HT_.out (by kernel_rfl)) (fun _ _ _ h => h) (Or.inl ⟨by rfl, ?_⟩) ?_ ?_
            rotate_left; · intro w'; go_simp; with_reducible rfl
            rotate_left; · simp only [Act.put, pA, pB, pC, pD, pE]; rfl
            refine pure_ (i := 11) (N := some 85) (v := ?_) (a' := ?_) (bA 21 3579) rfl rfl (any_of HT_.out (by kernel_rfl)) (fun _ _ _ h => h) (Or.inl ⟨by rfl, ?_⟩) ?_ ?_
            rotate_left; · intro w'; go_simp; with_reducible rfl
            rotate_left; · simp only [Act.put, pA, pB, pC, pD, pE]; rfl
            refine pure_ (i := 12) (N := some 86) (v := ?_) (a' := ?_) (bA 21 7675) rfl rfl (any_of HT_.out (by kernel_rfl)) (fun _ _ _ h => h) (Or.inl ⟨by rfl, ?_⟩) ?_ ?_
            rotate_left; · intro w'; go_simp; with_reducible rfl
            rotate_left; · simp only [Act.put, pA, pB, pC, pD, pE]; rfl
            refine pure_ (i := 13) (N := some 87) (v := ?_) (a' := ?_) (bA 21 15867) rfl rfl (any_of HT_.out (by kernel_rfl)) (fun _ _ _ h => h) (Or.inl ⟨by rfl, ?_⟩) ?_ ?_
            rotate_left; · intro w'; go_simp; with_reducible rfl
            rotate_left; · simp only [Act.put, pA, pB, pC, pD, pE]; rfl
            refine take_ (i := 2) (N := some 76) (v := ?_) (a' := ?_) (bA 21 15871) rfl rfl (take_ofW HT_.out HW_.out (by kernel_rfl)) (fun _ _ _ h => h) (Or.inl ⟨by rfl, ?_⟩) hHeld ?_ ?_
            rotate_left
            · rintro w' ⟨s0, s1, s2⟩
              go_simp; with_reducible rfl
            rotate_left; · simp only [Act.put, pA, pB, pC, pD, pE]; rfl
            refine take_ (i := 9) (N := some 83) (v := ?_) (a' := ?_) (bA 21 16383) rfl rfl (take_ofW HT_.out HW_.out (by kernel_rfl)) (fun _ _ _ h => h) (Or.inl ⟨by rfl, ?_⟩) hHeld ?_ ?_
            rotate_left
            · rintro w' ⟨s0, s1, s2⟩
              go_simp; with_reducible rfl
            rotate_left; · simp only [Act.put, pA, pB, pC, pD, pE]; rfl
            refine take_ (i := 14) (N := some 88) (v := ?_) (a' := ?_) (bA 21 32767) rfl rfl (take_ofW HT_.out HW_.out (by kernel_rfl)) (fun _ _ _ h => h) (Or.inl ⟨by rfl, ?_⟩) hHeld ?_ ?_
            rotate_left
            · rintro w' ⟨s0, s1, s2⟩
              go_simp; with_reducible rfl
            rotate_left; · simp only [Act.put, pA, pB, pC, pD, pE]; rfl
            refine pure_ (i := 15) (N := some 89) (v := ?_) (a' := ?_) (bA 21 65535) rfl rfl (any_of HT_.out (by kernel_rfl)) (fun _ _ _ h => h) (Or.inl ⟨by rfl, ?_⟩) ?_ ?_
            rotate_left; · intro w'; go_simp; with_reducible rfl
            rotate_left; · simp only [Act.put, pA, pB, pC, pD, pE]; rfl
            refine one_ (i := 16) (N := some 90) (bA 21 131071) rfl rfl (one_of HT_.out (by kernel_rfl)) (by decide) (fun K hK => ?_)
            refine value_ (w1 := ?_) (v := ?_) (by rfl) rfl ?_ ?_
            rotate_left 2
            · go_simp
              constructor
              · rfl
              · rfl
            refine hK.out _ _ ⟨(cell_al (w := wr.drew) q1 _), (cell_al (w := wr.drew) qu _), (cell_al (w := wr.drew) qv _)⟩ (fun hHeld => ?_)
            clear hK K
            refine norm_ (a' := ?_) ?_ ?_
            rotate_left
            · show Act.put _ (some 90) _ = _
              simp only [Act.put, pA, pB, pC, pD, pE]; rfl
            refine last_ (i := 17) (N := some 91) (bA 21 262143) rfl rfl (one_of HT_.out (by kernel_rfl)) (by decide) (fun K hK => ?_)
            refine step_append_any rfl (.tmp 76) (.tmp 90) 25 rfl w.heap.size 36 i4 (.agg #[.int .i64 0, .int .i64 0, .int .i64 0, .int .u32 0]) 4 32 Try.underlying25 hi4 hz4 hs4 hy4 rfl (by omega) _ _ _ rfl (HE.out.drew.alloc (.cells #[.int .i64 ((j : Int) + 1), .int .i64 u, .int .i64 v, .int .u32 0] 36)) _ rfl 1 [.int .i64 ((j : Int) + 1), .int .i64 u, .int .i64 v, .int .u32 0] (RdV.lit wr.drew #[.int .i64 ((j : Int) + 1), .int .i64 u, .int .i64 v, .int .u32 0] 36 1 4 1 rfl (by simp [Value.oneCell'])) (by unfold maxLen; omega) (by omega) (by have := HB.out.b.size; simp; omega) ?_
            intro v6 w6 ho hg hn
            obtain ⟨A6, c6, rfl⟩ := Lw.own_slice ho
            have hbs := (HB.out.drew.al (o := (.cells #[.int .i64 ((j : Int) + 1), .int .i64 u, .int .i64 v, .int .u32 0] 36))).grown (HE.out.drew.alloc (.cells #[.int .i64 ((j : Int) + 1), .int .i64 u, .int .i64 v, .int .u32 0] 36)) (Nat.le_refl _) (by decide) hg
            have hva := own_types (HVA.out.drew.alloc (.cells #[.int .i64 ((j : Int) + 1), .int .i64 u, .int .i64 v, .int .u32 0] 36)) (HE.out.drew.alloc (.cells #[.int .i64 ((j : Int) + 1), .int .i64 u, .int .i64 v, .int .u32 0] 36)) (by decide)
            have hvk := (HVA.out.drew.alloc (.cells #[.int .i64 ((j : Int) + 1), .int .i64 u, .int .i64 v, .int .u32 0] 36)).kept hg hva
            have hs16 := hbs.x.cell 1 rfl
            have hf16 := hbs.x.free 1
            have HB6 := Lib.hid hbs
            have HE6 := Lib.hid ho
            have HVA6 := Lib.hid hvk
            clear ho hg hn hbs hva hvk HE HB HVA; refine hK.out _ _ ?_; clear hK K
            refine norm_ (a' := ?_) ?_ ?_
            rotate_left
            · show Act.put _ (some 91) _ = _
              simp only [Act.put, pA, pB, pC, pD, pE]; rfl
            refine pure_ (i := 18) (N := some 92) (v := ?_) (a' := ?_) (bA 21 524287) rfl rfl (any_of HT_.out (by kernel_rfl)) (fun _ _ _ h => h) (Or.inl ⟨by rfl, ?_⟩) ?_ ?_
            rotate_left; · intro w'; go_simp; with_reducible rfl
            rotate_left; · simp only [Act.put, pA, pB, pC, pD, pE]; rfl
            refine pure_ (i := 19) (N := some 93) (v := ?_) (a' := ?_) (bA 21 1048575) rfl rfl (any_of HT_.out (by kernel_rfl)) (fun _ _ _ h => h) (Or.inl ⟨by rfl, ?_⟩) ?_ ?_
            rotate_left; · intro w'; go_simp; with_reducible rfl
            rotate_left; · simp only [Act.put, pA, pB, pC, pD, pE]; rfl
            refine last_ (i := 20) (N := none) (bA 21 2097151) rfl rfl (one_of HT_.out (by kernel_rfl)) (by decide) (fun K hK => ?_)
            refine skip_ (w1 := ?_) (by rfl) rfl ?_ ?_
            rotate_left; · go_simp; rfl
            refine hK.out _ _ ?_; clear hK K
            refine done_ (done_of HT_.out (by kernel_rfl)) ?_
            clear hHeld HT_ HW_; clear q1 qu qv
            go_wp2
            go_roundg k1
            case measure => omega
            case rel =>
              refine ⟨j + 1, by go_num, Lib.hid ⟨by omega, HGD.out, _, xs ++ [.int .i64 ((j : Int) + 1), .int .i64 u, .int .i64 v, .int .u32 0], HB6.out.put 1 _, own_beside HVA6.out HB6.out.x (by decide), own_beside HE6.out HB6.out.x (by decide), ?_⟩⟩
              rw [HTK.out]
              exact HXS.out.snoc HL0.out
          · have hbad : ¬ Cv.Good n arcs := fun h => hok (by have := h _ (List.mem_of_getElem? hx); exact this)
            have f0 := hB.r.free 0
            have f1 := hB.r.free 1
            have f2 := hB.r.free 2
            have f3 := hB.r.free 3
            have f4 := hB.r.free 4
            have f5 := hB.r.free 5
            have f6 := hB.r.free 6
            have c0 := hB.r.cell 0 rfl
            have c1 := hB.r.cell 1 rfl
            have c2 := hB.r.cell 2 rfl
            have c3 := hB.r.cell 3 rfl
            have c4 := hB.r.cell 4 rfl
            have c5 := hB.r.cell 5 rfl
            have c6 := hB.r.cell 6 rfl
            have HQ := Lib.hid (And.intro hbad hB)
            have hcase : u < 0 ∨ (0 ≤ u ∧ (n : Int) ≤ u) ∨ (0 ≤ u ∧ u < n ∧ v < 0) ∨ (0 ≤ u ∧ u < n ∧ 0 ≤ v ∧ (n : Int) ≤ v) := by omega
            clear hB hVA hE hxs hgd hx hxx hjl hbad hok
            rcases hcase with o1 | ⟨o1, o2⟩ | ⟨o1, o2, o3⟩ | ⟨o1, o2, o3, o4⟩
            all_goals go_wp2
            all_goals ((try simp only [Exit.inBlock, Exit.then]); refine cover_ret _ _ HQ.out.2.r rfl rfl (fun hO => ?_))
            all_goals exact ⟨HQ.out.2.b.trans ((hO.below HQ.out.2.hr HQ.out.2.b.size)), .inl ⟨HQ.out.1, rfl⟩⟩
        · obtain rfl : m = j := by omega
          rw [List.take_of_length_le (by have := HM.out; omega)] at hgd hxs
          obtain ⟨AE, ce, rfl⟩ := Lw.own_slice hE
          obtain ⟨A, cg, rfl⟩ := Lw.own_slice hVA
          have hvs := (RdI.of_own hVA).1
          have hes := RdE.of_own hE hxs.1 HM.out.symm
          have hAC := acyR_calls wr A AE cg ce mm (rng n) arcs comp hvs hes (rng_lt n) (good_rng.2 hgd) (by rw [rng_length]; exact HCO.out.1 hgd) (by rw [rng_length]; omega) (by rw [HM.out]; exact hm)
          rw [rng_length, HM.out] at hAC
          unfold gV at hAC
          have q0 := hB.x.cell 0 rfl
          have q1 := hB.x.cell 1 rfl
          have q2 := hB.x.cell 2 rfl
          have q3 := hB.x.cell 3 rfl
          have HB := Lib.hid hB
          have HVA := Lib.hid hVA
          have HE := Lib.hid hE
          have HXS := Lib.hid hxs
          have HGD := Lib.hid hgd
          clear hB hVA hE hxs hgd hvs hes hj hjk
          cases hab : acyB arcs mm n with
          | false =>
            rw [hab] at hAC
            have HAC := Lib.hid hAC
            have HAB := Lib.hid hab
            clear hAC hab
            go_wp2_with fail
            refine HAC.out.mono ?_
            rintro e w3 ⟨rfl, hb3⟩
            have hB3 := HB.out.below hb3
            clear q0 q1 q2 q3 HAC
            have f0 := hB3.r.free 0
            have c0 := hB3.r.cell 0 rfl
            have f1 := hB3.r.free 1
            have c1 := hB3.r.cell 1 rfl
            have f2 := hB3.r.free 2
            have c2 := hB3.r.cell 2 rfl
            have f3 := hB3.r.free 3
            have c3 := hB3.r.cell 3 rfl
            have f4 := hB3.r.free 4
            have c4 := hB3.r.cell 4 rfl
            have f5 := hB3.r.free 5
            have c5 := hB3.r.cell 5 rfl
            have f6 := hB3.r.free 6
            have c6 := hB3.r.cell 6 rfl
            have HQ := Lib.hid hB3
            clear hB3 hb3
            go_wp2_with fail
            (try simp only [Exit.inBlock, Exit.then]); refine cover_ret _ _ HQ.out.r rfl rfl (fun hO => ?_)
            exact ⟨HQ.out.b.trans ((hO.below HQ.out.hr HQ.out.b.size)), .inr (.inl ⟨HGD.out, HAB.out, rfl⟩)⟩
          | true =>
            rw [hab] at hAC
            have HAC := Lib.hid hAC
            have HAB := Lib.hid hab
            clear hAC hab
            go_wp2_with fail
            refine HAC.out.mono ?_
            rintro e w3 ⟨rfl, hb3⟩
            obtain ⟨s3, hs3⟩ : ∃ s3, w3.heap.size = s3 := ⟨_, rfl⟩
            have hva3 := Old.mk' (own_below HVA.out hb3)
            have hve3 := Old.mk' (own_below HE.out hb3)
            rw [hs3] at hva3 hve3
            have HB3 := Lib.hid (HB.out.below hb3)
            have HVA3 := Lib.hid hva3
            have HVE3 := Lib.hid hve3
            have HS3 := Lib.hid (show w.heap.size ≤ s3 by rw [← hs3]; exact HB3.out.b.size)
            have HS3E := Lib.hid hs3
            clear q0 q1 q2 q3 HAC hb3 hva3 hve3 HB HVA HE hs3
            go_wp2_with fail
            go_loopg [9] n (fun kq v9 w' => ∃ i : Nat, v9 = .int .i64 (i : Int) ∧ Hid (i + kq = n ∧ ∃ vP, BS w gr gx [.slice A n cg, .slice AE m ce, .int .i64 0, .int .i64 0, vP, .slice none 0 0, .slice none 0 0] w' ∧ Old w' w.heap.size s3 3 1 (.slice A n cg) n (ints (rng n)) ∧ Old w' w.heap.size s3 36 4 (.slice AE m ce) m xs ∧ w'.ownsRow s3 3 1 vP i (ints ((parsOf n arcs).take i)) ∧ s3 ≤ w'.heap.size))
            case atStart => exact ⟨0, rfl, Lib.hid ⟨by omega, _, HB3.out, HVA3.out, HVE3.out, World.ownsRow_nil _ _ _ _, by rw [HS3E.out]; exact Nat.le_refl _⟩⟩
            case round =>
              clear HB3 HVA3 HVE3 HS3E
              obtain ⟨i, rfl, hI⟩ := hrel
              obtain ⟨hik, vP, hB, hVA, hVE, hP, hsz⟩ := hI.out
              clear hI
              by_cases hi : i < n
              · obtain ⟨k1, rfl⟩ : ∃ k1, gk = k1 + 1 := ⟨gk - 1, by omega⟩
                obtain ⟨wz, hwz⟩ : ∃ wz, wr = wz := ⟨_, rfl⟩
                rw [hwz] at hB hVA hVE hP hsz ⊢
                have i0 : (0 : Int) ≤ (i : Int) := by omega
                have i1' : (i : Int) < (n : Int) := by omega
                have i2 : (n : Int) ≤ 256 := by omega
                have HBZ := Lib.hid hB
                have HVAZ := Lib.hid hVA
                have HVEZ := Lib.hid hVE
                have HPZ := Lib.hid (And.intro hP hsz)
                clear hB hVA hVE hP hsz hwz
                go_wp2_with fail
                go_loopg [10, 11] n (fun kq v10 v11 w' => ∃ p : Int, v10 = .int .i64 p ∧ v11 = .int .i64 ((kq : Int) - 1) ∧ Hid (kq ≤ n ∧ ParT n arcs (i : Int) kq p ∧ Below wz.heap.size wz w'))
                case atStart => exact ⟨-1, rfl, by go_num, Lib.hid ⟨Nat.le_refl _, ParT.start _ _ _, Below.refl _ _⟩⟩
                case round =>
                  obtain ⟨p, rfl, rfl, hI⟩ := hrel
                  obtain ⟨hkn, hPT, hbz⟩ := hI.out
                  clear hI
                  have hB := HBZ.out.below hbz
                  cases gk with
                  | zero =>
                    have HPT := Lib.hid (hPT.fin HGD.out hi)
                    have q4 := hB.x.cell 4 rfl
                    have HB4 := Lib.hid hB
                    have HVA4 := Lib.hid (HVAZ.out.below hbz)
                    have HVE4 := Lib.hid (HVEZ.out.below hbz)
                    have HP4 := Lib.hid (And.intro (own_below HPZ.out.1 hbz) (Nat.le_trans HPZ.out.2 hbz.size))
                    have e1 : decide (((0 : Nat) : Int) - 1 ≥ 0) = false := by decide
                    clear hB hbz hPT
                    go_wp2_with ((at_builtin; (refine wpList_append_any rfl (.tmp 117) (.tmp 119) 24 rfl s3 3 i1 (.int .i64 0) 1 8 Try.underlying24 hi1 hz1 hs1 hy1 rfl (by omega) _ _ _ rfl (HP4.out.1.alloc (.cells #[.int .i64 p] 3)) _ rfl 1 [.int .i64 p] (RdV.lit _ #[.int .i64 p] 3 1 1 1 rfl (by simp [Value.oneCell'])) (by unfold maxLen; omega) (by omega) (by have := HP4.out.2; simp; omega) ?_; intro v5 w5 ho hg hn; obtain ⟨A5, c5, rfl⟩ := Lw.own_slice ho; have hbs := (HB4.out.al (o := (.cells #[.int .i64 p] 3))).grown (HP4.out.1.alloc (.cells #[.int .i64 p] 3)) HS3.out (by decide) hg; have hva := (HVA4.out.al (o := (.cells #[.int .i64 p] 3))).grown (HP4.out.1.alloc (.cells #[.int .i64 p] 3)) (Nat.le_refl _) hg; have hve := (HVE4.out.al (o := (.cells #[.int .i64 p] 3))).grown (HP4.out.1.alloc (.cells #[.int .i64 p] 3)) (Nat.le_refl _) hg; have c4 := hbs.x.cell 4 rfl; have f4 := hbs.x.free 4; have HB5 := Lib.hid hbs; have HR5 := Lib.hid ho; have HVA5 := Lib.hid hva; have HVE5 := Lib.hid hve; have hgs := Nat.le_trans (Nat.le_trans HP4.out.2 (show wr.heap.size ≤ (wr.alloc (.cells #[.int .i64 p] 3)).heap.size by simp)) hg.size; clear ho hg hn hbs hva hve HP4 HB4 HVA4 HVE4)))
                    go_roundg k1
                    case measure => omega
                    case rel =>
                      refine ⟨i + 1, by go_num, Lib.hid ⟨by omega, _, HB5.out.put 4 _, HVA5.out.offT ((Off.refl gx _).set 4 _) HB5.out.x (by decide), HVE5.out.offT ((Off.refl gx _).set 4 _) HB5.out.x (by decide), ?_, ?_⟩⟩
                      · rw [take_snoc (by have := (HGD.out.par).1; omega), ints_append, ← HPT.out]
                        exact own_beside HR5.out HB5.out.x (by decide)
                      · simpa [World.setCell] using hgs
                  | succ k2 =>
                    have ek : ((k2 + 1 : Nat) : Int) - 1 = (k2 : Int) := by omega
                    rw [ek]
                    have e1 : decide ((k2 : Int) ≥ 0) = true := by simp
                    have q0 := hB.x.cell 0 rfl
                    have q1 := hB.x.cell 1 rfl
                    have q2 := hB.x.cell 2 rfl
                    have q3 := hB.x.cell 3 rfl
                    have hes := RdE.of_own (HVEZ.out.below hbz).o HXS.out.1 HM.out.symm
                    have hLC := leads_calls wr A AE n cg ce arcs (k2 : Int) (i : Int) hes (by rw [HM.out]; exact hm)
                    rw [HM.out] at hLC
                    unfold gV at hLC
                    have k20 : (0 : Int) ≤ (k2 : Int) := by omega
                    have k21 : (k2 : Int) < (n : Int) := by omega
                    have HBZ' := Lib.hid hbz
                    by_cases he : ((k2 : Int), (i : Int)) ∈ arcs
                    · rw [decide_eq_true he] at hLC
                      have HLC := Lib.hid hLC
                      have HPT := Lib.hid (hPT.yes he)
                      clear hLC hPT he hes hbz hB ek
                      go_wp2_with fail
                      refine HLC.out.mono ?_
                      rintro e wl ⟨rfl, hbl⟩
                      have HBL := Lib.hid (HBZ'.out.trans (hbl.mono HBZ'.out.size))
                      clear hbl HLC q0 q1 q2 q3
                      go_wp2_with fail
                      go_roundg k2
                      case measure => omega
                      case rel => exact ⟨(k2 : Int), rfl, by go_num, Lib.hid ⟨by omega, HPT.out, HBL.out⟩⟩
                    · rw [decide_eq_false he] at hLC
                      have HLC := Lib.hid hLC
                      have HPT := Lib.hid (hPT.no he)
                      clear hLC hPT he hes hbz hB ek
                      go_wp2_with fail
                      refine HLC.out.mono ?_
                      rintro e wl ⟨rfl, hbl⟩
                      have HBL := Lib.hid (HBZ'.out.trans (hbl.mono HBZ'.out.size))
                      clear hbl HLC q0 q1 q2 q3
                      go_wp2_with fail
                      go_roundg k2
                      case measure => omega
                      case rel => exact ⟨p, rfl, by go_num, Lib.hid ⟨by omega, HPT.out, HBL.out⟩⟩
              · obtain rfl : n = i := by omega
                rw [List.take_of_length_le (by have := (HGD.out.par).1; omega)] at hP
                obtain ⟨rk, hrk⟩ := HCO.out.2 HGD.out HAB.out
                obtain ⟨AP, cp, rfl⟩ := Lw.own_slice hP
                have hps := (RdI.of_own hP).1
                have hll := order_len hrk
                have hbl := belowR_calls A n cg AE m ce AP cp none 0 0 none 0 0 (parsOf n arcs) rk hrk (by omega) (n + 2) (-1) _ wr (bel_full hrk (.inl rfl)) hps (by omega)
                obtain ⟨L, hL⟩ : ∃ L, bl (parsOf n arcs) (-1) = L := ⟨_, rfl⟩
                rw [hL] at hll hbl
                rw [hll] at hbl
                unfold cV at hbl
                have q0 := hB.x.cell 0 rfl
                have q1 := hB.x.cell 1 rfl
                have q2 := hB.x.cell 2 rfl
                have q3 := hB.x.cell 3 rfl
                have q4 := hB.x.cell 4 rfl
                have q5 := hB.x.cell 5 rfl
                have q6 := hB.x.cell 6 rfl
                have HBL := Lib.hid hbl
                have HB := Lib.hid hB
                have HVA := Lib.hid hVA
                have HVE := Lib.hid hVE
                have HP := Lib.hid (And.intro hP hsz)
                have HRK := Lib.hid (And.intro hrk (And.intro hL hll))
                clear hB hVA hVE hP hsz hrk hL hll hbl hps hi hik
                go_wp2_with fail
                refine HBL.out.mono ?_
                rintro e w4 ⟨v4, rfl, hO4⟩
                obtain ⟨Ao, co, rfl⟩ := Lw.own_slice hO4.r
                clear HBL q0 q1 q2 q3 q4 q5 q6
                obtain ⟨s4, hs4⟩ : ∃ s4, w4.heap.size = s4 := ⟨_, rfl⟩
                have hb4 : Below wr.heap.size wr w4 := hO4.b
                have hs34 : s3 ≤ w4.heap.size := Nat.le_trans HP.out.2 hb4.size
                have hB4 := HB.out.below hb4
                have P1 := (Old.mk' (own_below HVA.out.o hb4))
                have P2 := (Old.mk' (own_below HVE.out.o hb4))
                have P3 := (Old.mk' (own_below (own_mono HP.out.1 HS3.out) hb4))
                have P4 := (Old.mk' (own_mono hO4.r HB.out.b.size))
                rw [hs4] at P1 P2 P3 P4
                have hs4w : w.heap.size ≤ s4 := by rw [← hs4]; exact hB4.b.size
                have f5 := hB4.x.free 5
                have q5 := hB4.x.cell 5 rfl
                have l5 : gx < w4.heap.size := hB4.x.lt
                have n5 : gx ≠ w4.heap.size := Nat.ne_of_lt l5
                have hmk := fun wx => run_make_row' (P := Try.prog) 24 3 (.int .i64 0) 8 Try.underlying24 Scc.info_int rfl .i64 .i64 n (by omega) (by omega) wx
                have HPS := Lib.hid (And.intro hB4 (And.intro P1 (And.intro P2 (And.intro P3 (And.intro P4 (And.intro hs4 hs4w))))))
                clear hO4 hb4 hs34 hB4 P1 P2 P3 P4 hs4 hs4w HB HVA HVE HP
                go_wp2_with fail
                refine gen_loopw (fun W => PS w gr gx s4 s4 n m A AE AP Ao cg ce cp co xs (parsOf n arcs) L (psU n L 0) W) ?_ ?_
                · obtain ⟨hB4, P1, P2, P3, P4, hs4, hs4w⟩ := HPS.out
                  rw [hs4, psU_zero]
                  exact ps_start hB4 P1 P2 P3 P4 hs4 hs4w (fun W2 h2 => At.made h2 (made_ints n))
                clear hmk f5 q5 l5 n5
                intro w5 h5
                have H5 := Lib.hid h5
                have hs4 := HPS.out.2.2.2.2.2.1
                rw [hs4]
                clear h5 HPS hs4
                go_loopg [13] n (fun kq v13 w' => ∃ i : Nat, v13 = .int .i64 (i : Int) ∧ Hid (i + kq = n ∧ PS w gr gx s4 s4 n m A AE AP Ao cg ce cp co xs (parsOf n arcs) L (psU n L i) w'))
                case atStart => exact ⟨0, rfl, Lib.hid ⟨by omega, H5.out⟩⟩
                case round =>
                  clear H5
                  obtain ⟨i, rfl, hI⟩ := hrel
                  obtain ⟨hik, hPS⟩ := hI.out
                  clear hI
                  by_cases hi : i < n
                  · obtain ⟨k1, rfl⟩ : ∃ k1, gk = k1 + 1 := ⟨gk - 1, by omega⟩
                    obtain ⟨hrk, hL, hll⟩ := HRK.out
                    obtain ⟨x, hx⟩ : ∃ x, L[i]? = some x := ⟨_, List.getElem?_eq_getElem (by omega)⟩
                    have hxn : x < n := by
                      have := (order_perm hrk).mem_iff.1 (hL ▸ List.mem_of_getElem? hx)
                      simpa using this
                    have hnd : L.Nodup := hL ▸ bl_nodup hrk _ (.inl rfl)
                    obtain ⟨bo, rfl, _, hcc⟩ := cell_flat hPS.o.o (by omega)
                    have qo := hcc i _ (Mem.ints_at _ (nums_at hx))
                    have q5 := hPS.b.x.cell 5 rfl
                    obtain ⟨z, hz⟩ : ∃ z, (psU n L i)[x]? = some z := ⟨_, List.getElem?_eq_getElem (by rw [psU_length]; exact hxn)⟩
                    have cz := hPS.q.cell x (Mem.ints_at _ hz)
                    have fz := hPS.q.free x
                    have hst := psU_set (n := n) hnd hx
                    have i0 : (0 : Int) ≤ (i : Int) := by omega
                    have i1' : (i : Int) < (n : Int) := by omega
                    have i2 : (n : Int) ≤ 256 := by omega
                    have x0 : (0 : Int) ≤ (x : Int) := by omega
                    have x1 : (x : Int) < (n : Int) := by omega
                    have e4 : ∀ z : Int, z = (i : Int) + 1 → wrap64 z = z := fun z hz => by subst hz; unfold wrap64; omega
                    have HPS := Lib.hid (And.intro hik (And.intro hPS hst))
                    clear hrk hL hll hx hxn hnd hcc hz hst hik hPS hi
                    go_upto_region 31 with (fail)
                    refine start_ (n := 10) (S := fun w' => w'.cell? ⟨gx, 5, none⟩ = some (.slice (some ⟨s4, 0, none⟩) n n) ∧ w'.cell? ⟨bo, i, none⟩ = some (.int .i64 (x : Int))) (ds := [9]) (bA 10 0) (by kernel_rfl) rfl rfl ⟨q5, qo⟩ (fun hHeld => ?_)
                    refine with_tabW tb15_31.tab31 tb15_31.bits31 (fun HT_ HW_ => ?_)
                    refine pure_ (i := 0) (N := some 133) (v := ?_) (a' := ?_) (bA 10 1) rfl rfl (any_of HT_.out (by kernel_rfl)) (fun _ _ _ h => h) (Or.inl ⟨by rfl, ?_⟩) ?_ ?_
                    rotate_left; · intro w'; go_simp; with_reducible rfl
                    rotate_left; · simp only [Act.put, pA, pB, pC, pD, pE]; rfl
                    refine pure_ (i := 2) (N := some 135) (v := ?_) (a' := ?_) (bA 10 5) rfl rfl (any_of HT_.out (by kernel_rfl)) (fun _ _ _ h => h) (Or.inl ⟨by rfl, ?_⟩) ?_ ?_
                    rotate_left; · intro w'; go_simp; with_reducible rfl
                    rotate_left; · simp only [Act.put, pA, pB, pC, pD, pE]; rfl
                    refine pure_ (i := 3) (N := some 136) (v := ?_) (a' := ?_) (bA 10 13) rfl rfl (any_of HT_.out (by kernel_rfl)) (fun _ _ _ h => h) (Or.inl ⟨by rfl, ?_⟩) ?_ ?_
                    rotate_left; · intro w'; go_simp; with_reducible rfl
                    rotate_left; · simp only [Act.put, pA, pB, pC, pD, pE]; rfl
                    refine pure_ (i := 4) (N := some 137) (v := ?_) (a' := ?_) (bA 10 29) rfl rfl (any_of HT_.out (by kernel_rfl)) (fun _ _ _ h => h) (Or.inl ⟨by rfl, ?_⟩) ?_ ?_
                    rotate_left; · intro w'; go_simp; with_reducible rfl
                    rotate_left; · simp only [Act.put, pA, pB, pC, pD, pE]; rfl
                    refine pure_ (i := 6) (N := some 139) (v := ?_) (a' := ?_) (bA 10 93) rfl rfl (any_of HT_.out (by kernel_rfl)) (fun _ _ _ h => h) (Or.inl ⟨by rfl, ?_⟩) ?_ ?_
                    rotate_left; · intro w'; go_simp; with_reducible rfl
                    rotate_left; · simp only [Act.put, pA, pB, pC, pD, pE]; rfl
                    refine pure_ (i := 7) (N := some 140) (v := ?_) (a' := ?_) (bA 10 221) rfl rfl (any_of HT_.out (by kernel_rfl)) (fun _ _ _ h => h) (Or.inl ⟨by rfl, ?_⟩) ?_ ?_
                    rotate_left; · intro w'; go_simp; with_reducible rfl
                    rotate_left; · simp only [Act.put, pA, pB, pC, pD, pE]; rfl
                    refine take_ (i := 1) (N := some 134) (v := ?_) (a' := ?_) (bA 10 223) rfl rfl (take_ofW HT_.out HW_.out (by kernel_rfl)) (fun _ _ _ h => h) (Or.inl ⟨by rfl, ?_⟩) hHeld ?_ ?_
                    rotate_left
                    · rintro w' ⟨s0, s1⟩
                      go_simp; with_reducible rfl
                    rotate_left; · simp only [Act.put, pA, pB, pC, pD, pE]; rfl
                    refine take_ (i := 5) (N := some 138) (v := ?_) (a' := ?_) (bA 10 255) rfl rfl (take_ofW HT_.out HW_.out (by kernel_rfl)) (fun _ _ _ h => h) (Or.inl ⟨by rfl, ?_⟩) hHeld ?_ ?_
                    rotate_left
                    · rintro w' ⟨s0, s1⟩
                      go_simp; with_reducible rfl
                    rotate_left; · simp only [Act.put, pA, pB, pC, pD, pE]; rfl
                    refine pure_ (i := 8) (N := some 141) (v := ?_) (a' := ?_) (bA 10 511) rfl rfl (any_of HT_.out (by kernel_rfl)) (fun _ _ _ h => h) (Or.inl ⟨by rfl, ?_⟩) ?_ ?_
                    rotate_left; · intro w'; go_simp; with_reducible rfl
                    rotate_left; · simp only [Act.put, pA, pB, pC, pD, pE]; rfl
                    refine last_ (i := 9) (N := none) (bA 10 1023) rfl rfl (one_of HT_.out (by kernel_rfl)) (by decide) (fun K hK => ?_)
                    refine skip_ (w1 := ?_) (by rfl) rfl ?_ ?_
                    rotate_left; · go_simp; rfl
                    refine hK.out _ _ ?_; clear hK K
                    refine done_ (done_of HT_.out (by kernel_rfl)) ?_
                    clear hHeld HT_ HW_; clear q5 qo cz fz
                    go_wp2
                    go_roundg k1
                    case measure => have := HPS.out.1; omega
                    case rel =>
                      obtain ⟨hik, hPS, hst⟩ := HPS.out
                      refine ⟨i + 1, by go_num, Lib.hid ⟨by omega, ?_⟩⟩
                      rw [← hst]
                      exact hPS.drew.set x _
                  · obtain rfl : n = i := by omega
                    have hes := RdE.of_own hPS.e.o HXS.out.1 HM.out.symm
                    have hvs := (RdI.of_own hPS.a.o).1
                    have hCL := closure_calls wr A AE cg ce (rng n) arcs hvs hes (rng_lt n) (good_rng.2 HGD.out) (by rw [rng_length]; omega) (by rw [HM.out]; exact hm)
                    rw [rng_length, HM.out] at hCL
                    unfold gV at hCL
                    have q0 := hPS.b.x.cell 0 rfl
                    have q1 := hPS.b.x.cell 1 rfl
                    have q2 := hPS.b.x.cell 2 rfl
                    have q3 := hPS.b.x.cell 3 rfl
                    have HPS := Lib.hid hPS
                    have HCL := Lib.hid hCL
                    clear hes hvs hCL hPS hik hi
                    go_wp2_with fail
                    refine HCL.out.mono ?_
                    rintro e w6 ⟨AR, cr, rfl, hrc, hb6⟩
                    have hP6 := HPS.out.below hb6
                    clear q0 q1 q2 q3 HCL hb6 HPS
                    have q0 := hP6.b.x.cell 0 rfl
                    have q1 := hP6.b.x.cell 1 rfl
                    have q2 := hP6.b.x.cell 2 rfl
                    have q3 := hP6.b.x.cell 3 rfl
                    have q4 := hP6.b.x.cell 4 rfl
                    have q5 := hP6.b.x.cell 5 rfl
                    have q6 := hP6.b.x.cell 6 rfl
                    have p6 := hP6.b.x.free 6
                    have nrx := hP6.b.ne
                    have f0 := hP6.b.r.free 0
                    have c0 := hP6.b.r.cell 0 rfl
                    have f1 := hP6.b.r.free 1
                    have c1 := hP6.b.r.cell 1 rfl
                    have f2 := hP6.b.r.free 2
                    have c2 := hP6.b.r.cell 2 rfl
                    have f3 := hP6.b.r.free 3
                    have c3 := hP6.b.r.cell 3 rfl
                    have f4 := hP6.b.r.free 4
                    have c4 := hP6.b.r.cell 4 rfl
                    have f5 := hP6.b.r.free 5
                    have c5 := hP6.b.r.cell 5 rfl
                    have f6 := hP6.b.r.free 6
                    have c6 := hP6.b.r.cell 6 rfl
                    have HQ := Lib.hid (And.intro hP6 hrc)
                    clear hP6 hrc
                    go_wp2_with fail
                    (try simp only [Exit.inBlock, Exit.then]); refine cover_ret _ _ (HQ.out.1.b.put 6 _).r rfl rfl (fun hO => ?_)
                    refine ⟨(HQ.out.1.b.put 6 (.slice AR n cr)).b.trans ((hO.below HQ.out.1.b.hr (HQ.out.1.b.put 6 (.slice AR n cr)).b.size)), .inr (.inr ⟨HGD.out, HAB.out, A, AE, AP, some ⟨s4, 0, none⟩, AR, cg, ce, cp, n, cr, ?_, ?_⟩)⟩
                    · rw [HM.out]; rfl
                    · have := HQ.out.1.fin HXS.out HM.out.symm HQ.out.2 hO
                      rw [← HRK.out.2.1, psU_full HRK.out.1] at this
                      exact this

end Go.Proofs.Ytdohfjidnbhfnaa.Rb
