/- cert: Labels. -/
import Derived.Test.YtgihncjllelonaaGreatHt5
import Derived.Test.YtgihncjllelonaaGreatHt27
import Derived.Test.YtgihncjllelonaaGreatHt12
namespace Go.Proofs.YtgihncjllelonaaGreat.Ce
open Go Go.RowKit Go.MapKept Go.Proofs.YtgihncjllelonaaGreat.Mem Go.Proofs.YtgihncjllelonaaGreat.Sl Go.Proofs.YtgihncjllelonaaGreat.Lw Go.Proofs.YtgihncjllelonaaGreat.Om Go.Proofs.YtgihncjllelonaaGreat.Tb Go.Proofs.YtgihncjllelonaaGreat.Scc Go.Proofs.YtgihncjllelonaaGreat.Tj Go.Proofs.YtgihncjllelonaaGreatW.PrintWords Go.Proofs.YtgihncjllelonaaGreatW.PrintLast
attribute [local go_sem ↓] Go.wp_at_zero Go.wp_at_succ
set_option linter.unusedSimpArgs false
set_option linter.unusedVariables false

abbrev Lb := Int × Int × List (Int × Int)
def RdLb (w : World) (A : Option Addr) (ls : List Lb) : Prop := ∀ (j : Nat) (v p : Int) (rs : List (Int × Int)), ls[j]? = some (v, p, rs) → ∃ g off Ar c, A = some ⟨g, off, none⟩ ∧ w.cell? ⟨g, off + j * 3, none⟩ = some (.int .i64 v) ∧ w.cell? ⟨g, off + j * 3 + 1, none⟩ = some (.int .i64 p) ∧ w.cell? ⟨g, off + j * 3 + 2, none⟩ = some (.slice Ar rs.length c) ∧ RdAO w Ar rs ∧ rs.length ≤ 9223372036854775807
theorem RdLb.below {w w' : World} {A : Option Addr} {ls : List Lb} (h : RdLb w A ls) (hb : Below w.heap.size w w') : RdLb w' A ls := fun j v p rs hx => by
  obtain ⟨g, off, Ar, c, h1, h2, h3, h4, h5, h6⟩ := h j v p rs hx
  exact ⟨g, off, Ar, c, h1, cell_below hb h2, cell_below hb h3, cell_below hb h4, h5.below hb, h6⟩
def pM (ls : List Lb) : Int → Option Int := fun v => (ls.reverse.find? fun p => decide (p.1 = v)).map (·.2.1)
def pF (ls : List Lb) : Int → Option Value := fun v => (pM ls v).map (.int .i64)
theorem pF_step (ls : List Lb) (x : Lb) : updV (pF ls) x.1 (some (.int .i64 x.2.1)) = pF (ls ++ [x]) := by
  funext v
  unfold updV pF pM
  rw [List.reverse_append, List.reverse_singleton, List.singleton_append, List.find?_cons]
  by_cases h : x.1 = v
  · subst h
    simp
  · rw [if_neg (fun e => h e.symm), decide_eq_false h]
def outA (l : List (Int × Int)) (u : Int) : List Int := (l.filter fun p => decide (p.1 = u)).map (·.2)
theorem outA_snoc (l : List (Int × Int)) (x : Int × Int) (u : Int) : outA (l ++ [x]) u = if u = x.1 then outA l u ++ [x.2] else outA l u := by
  unfold outA
  rw [List.filter_append, List.map_append]
  by_cases h : u = x.1
  · rw [if_pos h]
    simp [h]
  · rw [if_neg h]
    simp [Ne.symm h]
theorem outA_len (l : List (Int × Int)) (u : Int) : (outA l u).length ≤ l.length := by
  unfold outA
  rw [List.length_map]
  exact List.length_filter_le _ _
theorem mem_outA {l : List (Int × Int)} {u y : Int} : y ∈ outA l u ↔ (u, y) ∈ l := by
  unfold outA
  constructor
  · intro h
    obtain ⟨p, hp, rfl⟩ := List.mem_map.1 h
    obtain ⟨h1, h2⟩ := List.mem_filter.1 hp
    have : p.1 = u := by simpa using h2
    subst this
    exact h1
  · exact fun h => List.mem_map.2 ⟨_, List.mem_filter.2 ⟨h, by simp⟩, rfl⟩
def LabOk (code : Nat) (vs : List Int) (arcs : List (Int × Int)) (ls : List Lb) : Prop :=
  code = 0 ∧ ls.length = vs.length ∧ (∀ v ∈ vs, pM ls v ≠ none) ∧ ∀ l ∈ ls, ∀ v p, pM ls v = some p → (l.2.2.any (inSp p) = true ↔ Cl (fun x y => (x, y) ∈ arcs) l.1 v)
structure Lm (w W : World) (mo mp : Nat) (arcs : List (Int × Int)) (F : Int → Rw) (G : Int → Option Value) : Prop where
  om : OM W (mo + 2) mo F
  r : ∀ u, rL (F u) = outA arcs u
  pm : MQ W mp G
  ne : mp = mo + 1
  l : w.heap.size ≤ mo
  b : Below w.heap.size w W
  z : mo + 2 ≤ W.heap.size
section
variable {w W W' : World} {mo mp : Nat} {arcs : List (Int × Int)} {F : Int → Rw} {G : Int → Option Value}
theorem Lm.below (h : Lm w W mo mp arcs F G) (hb : Below W.heap.size W W') : Lm w W' mo mp arcs F G :=
  ⟨h.om.below hb, h.r, h.pm.below hb h.pm.lt, h.ne, h.l, h.b.trans (hb.mono h.b.size), Nat.le_trans h.z hb.size⟩
theorem Lm.al (h : Lm w W mo mp arcs F G) (o : Obj) : Lm w (W.alloc o) mo mp arcs F G := h.below ((Below.refl _ _).alloc (Nat.le_refl _) _)
theorem Lm.put (h : Lm w W mo mp arcs F G) (x : Int) (v : Value) : ∃ o, (Instr.mapUpdate 159 (.map (some mp)) (.int .i64 x) v).run Tryz.prog W = .ok () (putObj W mp o) ∧ Lm w (putObj W mp o) mo mp arcs F (updV G x (some v)) := by
  obtain ⟨o, hr, hm⟩ := h.pm.update (P := Tryz.prog) (T := 159) Tryz.underlying159 Tryz.underlying3 x v
  have hk : Kpt (fun k => k = mp) W (putObj W mp o) := ⟨rfl, rfl, rfl, by rw [putObj_size]; exact Nat.le_refl _, fun k _ hn => putObj_far hn⟩
  exact ⟨o, hr, h.om.kept hk (by have := h.ne; omega) (fun u k hk e => by have := ((h.om.r u).lt k hk).1; have := h.ne; omega), h.r, hm, h.ne, h.l, below_putObj h.b (by have := h.l; have := h.ne; omega) o, by rw [putObj_size]; exact h.z⟩
end
theorem mkA (W : World) : (Instr.makeMap 118 none).run Tryz.prog W = .ok (.map (some W.heap.size)) (W.alloc (.map #[] 0)) := rfl
set_option maxRecDepth 100000 in
theorem look_post {W : World} {mp : Nat} {ls : List Lb} (h : MQ W mp (pF ls)) (v : Int) : (Instr.lookup 159 (.map (some mp)) (.int .i64 v) true).run Tryz.prog W = .ok (.tuple #[.int .i64 ((pM ls v).getD 0), .bool (pM ls v).isSome]) W := by
  have := h.lookup_ok (P := Tryz.prog) (T := 159) Tryz.underlying159 Tryz.underlying3 zero_int v
  have e1 : (pF ls v).getD (.int .i64 0) = .int .i64 ((pM ls v).getD 0) := by unfold pF; cases pM ls v <;> rfl
  have e2 : (pF ls v).isSome = (pM ls v).isSome := by unfold pF; simp
  rwa [e1, e2] at this
def tb28_8.T8 : Bool × List (List Nat × List Nat) := (true, [([], []), ([], []), ([1], [1]), ([], []), ([], []), ([4], [4]), ([3, 5], [3, 5]), ([], []), ([7], [7]), ([8], [8]), ([6, 9], [6, 9]), ([0, 2, 10, 10, 0, 1, 2, 3, 4, 5, 6, 7, 8, 9, 10], [0, 2, 10])])
def tb28_8.B8 : List Nat := [0, 0, 2, 0, 0, 16, 56, 0, 128, 384, 1016, 2047]
theorem tb28_8.tab8 : rtab .any (opsOf Tryz.f28 8) = tb28_8.T8 := by kernel_rfl
theorem tb28_8.bits8 : waitsOk tb28_8.T8.2 tb28_8.B8 = true := by kernel_rfl
set_option maxHeartbeats 16000000 in
set_option maxRecDepth 100000 in
theorem labels_calls (w : World) (Av Aa Al : Option Addr) (cv ca cl : Nat) (vs : List Int) (arcs : List (Int × Int)) (ls : List Lb) (hv : RdI w Av vs) (ha : RdA w Aa arcs) (hl : RdLb w Al ls) (hvl : vs.length ≤ 400) (hal : arcs.length ≤ 400) (k code : Nat) (gs : List (List Int)) (hR : ofS vs arcs (sorted vs) k = some (code, gs)) (hz : code ≠ 0 → gs = []) (hdom : code = 0 → ∀ p ∈ arcs, p.2 ∈ vs) :
    Calls Tryz.prog 28 #[.slice Av vs.length cv, .slice Aa arcs.length ca, .slice Al ls.length cl] w fun e w' => ∃ b : Bool, e = .returned (.bool b) ∧ (b = true ↔ LabOk code vs arcs ls) ∧ Below w.heap.size w w' := by
  obtain ⟨i1, hi1, hz1, hs1, hy1⟩ := info_parts Lw.info_int
  have hof := of_rd w Av Aa cv ca vs arcs hv ha (by omega) (by omega) k code gs hR hz
  obtain ⟨n, hn⟩ : ∃ n, vs.length = n := ⟨_, rfl⟩
  obtain ⟨m, hm⟩ : ∃ m, arcs.length = m := ⟨_, rfl⟩
  obtain ⟨nl, hnl⟩ : ∃ m, ls.length = m := ⟨_, rfl⟩
  rw [hn, hm] at hof
  rw [hn, hm, hnl]
  have HOF := Lib.hid hof
  have HI := Lib.hid (And.intro hn (And.intro hm (And.intro hnl (And.intro hv (And.intro ha (And.intro hl hdom))))))
  have hn4 : n ≤ 400 := by omega
  have hm4 : m ≤ 400 := by omega
  clear hv ha hl hvl hal hR hz hdom hn hm hnl hof
  go_enter Tryz.func28, Tryz.ntmps28
  go_wp2_with fail
  refine HOF.out.mono ?_
  clear HOF
  rintro e1 w1 ⟨A1, c1, rfl, -, hb1⟩
  have HB1 := Lib.hid hb1
  clear hb1
  by_cases hz : code = 0
  · subst hz
    by_cases hdn : nl = n
    · subst hdn
      have hd1 : ((nl : Int) != (nl : Int)) = false := by simp
      have h1 := mkA
      have h2 := run_mkI
      go_upto_region 5 with (fail)
      clear h1 h2 hd1
      obtain ⟨mo, hmo⟩ : ∃ k, w1.heap.size = k := ⟨_, rfl⟩
      have hT : Lm w ((w1.alloc (.map #[] 0)).alloc (.map #[] 0)) mo (mo + 1) [] (fun _ => none) (pF []) := by
        subst hmo
        have s1 := HB1.out.size
        have e0 : pF [] = fun _ => none := rfl
        rw [e0]
        have hms := (MQ.new (w1.alloc (.map #[] 0)))
        exact ⟨(OM.new w1 _).below ((Below.refl _ _).alloc (Nat.le_refl _) _), fun u => rfl, by simpa using hms, rfl, s1, ((HB1.out.alloc s1 _).alloc (by simp; omega) _), by simp⟩
      obtain ⟨mp, hmp⟩ : ∃ g, mo + 1 = g := ⟨_, rfl⟩
      rw [hmo]
      rw [hmp] at hT ⊢
      refine gen_world (fun W => Lm w W mo mp [] (fun _ => none) (pF [])) hT ?_
      clear HB1 hT hmo hmp
      intro w3 hT
      have HT := Lib.hid hT
      clear hT
      go_upto_block 0 with (fail)
      go_cut [12] from 44 to 59 (fun s12 wx => ∃ F, Lm w wx mo mp arcs F (pF []))
      case first =>
        go_wp2_with fail
        go_loopg [44] (m + 1) (fun kq v44 w' => ∃ j : Nat, v44 = .int .i64 (j : Int) ∧ Hid (j + kq = m + 1 ∧ j ≤ m ∧ ∃ F, Lm w w' mo mp (arcs.take j) F (pF [])))
        case atStart => exact ⟨0, rfl, Lib.hid ⟨by omega, by omega, _, HT.out⟩⟩
        case round =>
          obtain ⟨j, rfl, hJ⟩ := hrel
          obtain ⟨hjk, hjm, F, hol⟩ := hJ.out
          clear hJ HT
          by_cases hj : j < m
          · obtain ⟨k1, rfl⟩ : ∃ k1, gk = k1 + 1 := ⟨gk - 1, by omega⟩
            obtain ⟨⟨u, v⟩, hx⟩ : ∃ x, arcs[j]? = some x := ⟨_, List.getElem?_eq_getElem (by have := HI.out.2.1; omega)⟩
            obtain ⟨ge, q0, x0, x1⟩ := (HI.out.2.2.2.2.1.below hol.b) j u v hx
            subst q0
            have j0 : (0 : Int) ≤ (j : Int) := by omega
            have j1 : (j : Int) < (m : Int) := by omega
            have HOL4 := Lib.hid hol
            have HJ := Lib.hid (And.intro hjk hx)
            clear hol hjk hjm hj hx
            go_upto_region 8 with (fail)
            clear x0 x1
            obtain ⟨gx, hgx⟩ : ∃ g, wr.heap.size = g := ⟨_, rfl⟩
            refine gen_world (fun W => Lm w W mo mp (arcs.take j) F (pF []) ∧ At W gx [.int .i64 u, .int .i64 v] 61) ⟨HOL4.out.below ((Below.refl _ _).alloc (Nat.le_refl _) _), At.made hgx rfl⟩ ?_
            rw [hgx]
            clear HOL4 hgx
            rintro wy ⟨hol, hX⟩
            obtain ⟨wd, hwd⟩ : ∃ wd, wy.drew = wd := ⟨_, rfl⟩
            have hbd : Below wy.heap.size wy wd := hwd ▸ (Below.refl _ _).drew
            have HOL := Lib.hid (hol.below hbd)
            have HX := Lib.hid (hX.below hbd hX.lt)
            have hrl : (rL (F u)).length ≤ 400 := by
              rw [hol.r u]
              have := outA_len (arcs.take j) u
              rw [List.length_take] at this
              have := HI.out.2.1
              omega
            clear hol hX hbd
            obtain ⟨rv, hrv⟩ : ∃ r, rV (F u) = r := ⟨_, rfl⟩
            obtain ⟨rl, hrl2⟩ : ∃ r, rL (F u) = r := ⟨_, rfl⟩
            obtain ⟨nr, hnr⟩ : ∃ r, rl.length = r := ⟨_, rfl⟩
            have hro := HOL.out.om.r u
            rw [hrv, hrl2, hnr] at hro
            rw [hrl2, hnr] at hrl
            have HRO := Lib.hid hro
            have HLK := Lib.hid (fun (W : World) (hb : Below wd.heap.size wd W) => show (Instr.lookup 118 (.map (some mo)) (.int .i64 u) false).run Tryz.prog W = .ok rv W from by
              rw [← hrv]
              exact ((HOL.out.below hb).om).look u)
            have HPU := Lib.hid (fun (o : Obj) (v' : Value) (w' : World) (ho : w'.ownsRow (mo + 2) 3 1 v' (nr + 1) (ints rl ++ [.int .i64 v])) (hg : (wd.alloc o).grownBy w' rv.ownBlock) (hn : v'.ownBlock = rv.ownBlock ∨ v'.ownBlock = some (wd.alloc o).heap.size) => HOL.out.om.push (u := u) (x := v) HOL.out.z (by rw [hrl2, hnr]; exact ho) (by rw [hrv]; exact hg) (by rw [hrv]; exact hn))
            have HLG0 := Lib.hid (fun (o : Obj) (w' : World) (hg : (wd.alloc o).grownBy w' rv.ownBlock) => show (Instr.lookup 118 (.map (some mo)) (.int .i64 u) false).run Tryz.prog w' = .ok rv w' from by
              have := HOL.out.om.lookG (u := u) (o := o) (w' := w') (by rw [hrv]; exact hg)
              rwa [hrv] at this)
            have HRL := Lib.hid hrl2
            clear hro hrv hrl2 hnr
            refine start_ (n := 12) (S := fun w' => w'.cell? ⟨gx, 0, none⟩ = some (.int .i64 u) ∧ w'.cell? ⟨gx, 1, none⟩ = some (.int .i64 v) ∧ (Instr.lookup 118 (.map (some mo)) (.int .i64 u) false).run Tryz.prog w' = .ok rv w') (ds := [11]) (bA 12 0) (by kernel_rfl) rfl rfl ⟨(by rw [hwd]; exact HX.out.cell 0 rfl), (by rw [hwd]; exact HX.out.cell 1 rfl), (by rw [hwd]; exact HLK.out wd (Below.refl _ _))⟩ (fun hHeld => ?_)
            rw [hwd] at hHeld ⊢
            refine with_tabW tb28_8.tab8 tb28_8.bits8 (fun HT_ HW_ => ?_)
            refine pw_ 0 48 (bA 12 1) HT_.out ?_
            refine pw_ 1 49 (bA 12 3) HT_.out ?_
            refine pw_ 3 51 (bA 12 11) HT_.out ?_
            refine pw_ 4 52 (bA 12 27) HT_.out ?_
            refine pw_ 7 55 (bA 12 155) HT_.out ?_
            refine tw_ 2 50 (bA 12 159) HT_.out HW_.out hHeld (hv := by rintro w' ⟨s0, s1, s2⟩; go_simp; with_reducible rfl) (h := ?_)
            refine tw_ 5 53 (bA 12 191) HT_.out HW_.out hHeld (hv := by rintro w' ⟨s0, s1, s2⟩; go_simp; with_reducible rfl) (h := ?_)
            refine tw_ 6 54 (bA 12 255) HT_.out HW_.out hHeld (hv := by rintro w' ⟨s0, s1, s2⟩; go_simp; with_reducible rfl) (h := ?_)
            refine tw_ 8 56 (bA 12 511) HT_.out HW_.out hHeld (hv := by rintro w' ⟨s0, s1, s2⟩; go_simp; with_reducible rfl) (h := ?_)
            refine one_ (i := 9) (N := some 57) (bA 12 1023) rfl rfl (one_of HT_.out (by kernel_rfl)) (by decide) (fun K hK => ?_)
            refine value_ (w1 := ?_) (v := ?_) (by rfl) rfl ?_ ?_
            rotate_left 2
            · go_simp
              constructor
              · rfl
              · rfl
            refine hK.out _ _ ⟨(HX.out.al.cell 0 rfl), (HX.out.al.cell 1 rfl), (HLK.out _ ((Below.refl _ _).alloc (Nat.le_refl _) _))⟩ (fun hHeld => ?_)
            clear hK K
            refine norm_ (a' := ?_) ?_ ?_
            rotate_left
            · show Act.put _ (some 57) _ = _
              simp only [Act.put, pA, pB, pC, pD, pE]; rfl
            refine one_ (i := 10) (N := some 58) (bA 12 2047) rfl rfl (one_of HT_.out (by kernel_rfl)) (by decide) (fun K hK => ?_)
            refine step_append_any rfl (.tmp 54) (.tmp 57) 22 rfl (mo + 2) 3 i1 (.int .i64 0) 1 8 Tryz.underlying22 hi1 hz1 hs1 hy1 rfl (by omega) _ _ _ rfl (HRO.out.alloc (.cells #[.int .i64 v] 3)) _ rfl 1 [.int .i64 v] (RdV.lit wd #[.int .i64 v] 3 1 1 1 rfl (by simp [Value.oneCell'])) (by unfold maxLen; omega) (by omega) (by have := HOL.out.z; simp; omega) ?_
            intro v7 w7 ho hg hn
            obtain ⟨o2, hr2, hom, hk⟩ := HPU.out _ v7 w7 ho hg hn
            have HN := Lib.hid (And.intro hom hk)
            have HX7 := Lib.hid (HX.out.al.grown hg (own_off (HRO.out.alloc (.cells #[.int .i64 v] 3)) HX.out.al (by decide)))
            have HLG := Lib.hid (HLG0.out _ w7 hg)
            clear ho hg hn hom hk
            refine hK.out _ _ ⟨(HX7.out.cell 0 rfl), (HX7.out.cell 1 rfl), HLG.out⟩ (fun hHeld => ?_)
            clear hK K
            refine norm_ (a' := ?_) ?_ ?_
            rotate_left
            · show Act.put _ (some 58) _ = _
              simp only [Act.put, pA, pB, pC, pD, pE]; rfl
            refine last_ (i := 11) (N := none) (bA 12 4095) rfl rfl (one_of HT_.out (by kernel_rfl)) (by decide) (fun K hK => ?_)
            refine skip_ (w1 := ?_) (by rfl) rfl ?_ ?_
            rotate_left; · go_simp; rfl
            refine hK.out _ _ ?_; clear hK K
            refine done_ (done_of HT_.out (by kernel_rfl)) ?_
            clear hHeld HT_ HW_
            have HX := Lib.hid (show j + 1 + k1 = m + 1 ∧ j + 1 ≤ m ∧ ∃ F, Lm w (putObj w7 mo o2) mo mp (arcs.take (j + 1)) F (pF []) from ⟨by have := HJ.out.1; omega, by omega, _, HN.out.1, fun y => by
              rw [List.take_add_one, HJ.out.2]
              show _ = outA (arcs.take j ++ [(u, v)]) y
              rw [outA_snoc]
              by_cases hy : y = u
              · rw [if_pos hy, if_pos hy, ← HOL.out.r, hy]
                rfl
              · rw [if_neg hy, if_neg hy, HOL.out.r], HOL.out.pm.move (HN.out.2.block mp HOL.out.pm.lt (fun hh => by have := HOL.out.ne; omega)), HOL.out.ne, HOL.out.l, HOL.out.b.trans (HN.out.2.to_below fun k hk => ⟨by have := HOL.out.b.size; omega, fun hh => by have := HOL.out.l; omega⟩), Nat.le_trans HOL.out.z HN.out.2.size⟩)
            clear HN hr2 HPU HLK HLG HLG0 HX7 HRO HOL HRL HJ hwd
            go_wp2
            go_roundg k1
            case measure => omega
            case rel => exact ⟨j + 1, by go_num, HX⟩
          · obtain rfl : j = m := by omega
            have jn : ¬ ((j : Int) < (j : Int)) := by omega
            rw [List.take_of_length_le (by have := HI.out.2.1; omega)] at hol
            have HZ := Lib.hid hol
            clear hol hjk hjm hj
            go_wp2_with fail
            go_meet
            exact ⟨F, HZ.out⟩
      case rest =>
        obtain ⟨F, hT⟩ := hcut
        rename World => w4
        have HT4 := Lib.hid hT
        clear hT HT
        go_upto_block 2 with (fail)
        go_cut [14] from 62 to 71 (fun s14 wx => Lm w wx mo mp arcs F (pF ls))
        case first =>
          go_wp2_with fail
          go_loopg [62] (nl + 1) (fun kq v62 w' => ∃ j : Nat, v62 = .int .i64 (j : Int) ∧ Hid (j + kq = nl + 1 ∧ j ≤ nl ∧ Lm w w' mo mp arcs F (pF (ls.take j))))
          case atStart => exact ⟨0, rfl, Lib.hid ⟨by omega, by omega, HT4.out⟩⟩
          case round =>
            obtain ⟨j, rfl, hJ⟩ := hrel
            obtain ⟨hjk, hjn, hT⟩ := hJ.out
            clear hJ HT4
            by_cases hj : j < nl
            · obtain ⟨k1, rfl⟩ : ∃ k1, gk = k1 + 1 := ⟨gk - 1, by omega⟩
              obtain ⟨⟨v, p, rs⟩, hx⟩ : ∃ x, ls[j]? = some x := ⟨_, List.getElem?_eq_getElem (by have := HI.out.2.2.1; omega)⟩
              obtain ⟨gd, od, Ar, cr, hgd, x0, x1, x2, -, -⟩ := (HI.out.2.2.2.2.2.1.below hT.b) j v p rs hx
              subst hgd
              obtain ⟨nr, hnr⟩ : ∃ r, rs.length = r := ⟨_, rfl⟩
              rw [hnr] at x2
              have j0 : (0 : Int) ≤ (j : Int) := by omega
              have j1 : (j : Int) < (nl : Int) := by omega
              have hT1 := hT.al (.cells #[.int .i64 v, .int .i64 p, .slice Ar nr cr] 69)
              obtain ⟨o, hr, hT2⟩ := hT1.put v (.int .i64 p)
              have hst := pF_step (ls.take j) (v, p, rs)
              rw [← show ls.take (j + 1) = ls.take j ++ [(v, p, rs)] from by rw [List.take_add_one, hx]; rfl] at hst
              have HX := Lib.hid (And.intro hjk (hst ▸ hT2))
              clear hT hT1 hT2 hst hx hjk hj hnr
              go_wp2
              go_roundg k1
              case measure => omega
              case rel => exact ⟨j + 1, by go_num, Lib.hid ⟨by have := HX.out.1; omega, by omega, HX.out.2⟩⟩
            · obtain rfl : j = nl := by omega
              have jn : ¬ ((j : Int) < (j : Int)) := by omega
              rw [List.take_of_length_le (by have := HI.out.2.2.1; omega)] at hT
              have HZ := Lib.hid hT
              clear hT hjk hjn hj
              go_wp2_with fail
              go_meet
              exact HZ.out
        case rest =>
          rename World => w5
          have HT5 := Lib.hid hcut
          clear hcut HT4
          go_upto_block 4 with (fail)
          go_cut [16, 17, 18] from 74 to 86 (fun s16 s17 s18 wx => Lm w wx mo mp arcs F (pF ls) ∧ Hid (∀ v ∈ vs, pM ls v ≠ none))
          case first =>
            go_wp2_with fail
            go_loopg [74] (nl + 1) (fun kq v74 w' => ∃ j : Nat, v74 = .int .i64 (j : Int) ∧ Hid (j + kq = nl + 1 ∧ j ≤ nl ∧ Lm w w' mo mp arcs F (pF ls) ∧ ∀ v ∈ vs.take j, pM ls v ≠ none))
            case atStart => exact ⟨0, rfl, Lib.hid ⟨by omega, by omega, HT5.out, fun v hv => by simp at hv⟩⟩
            case round =>
              obtain ⟨j, rfl, hJ⟩ := hrel
              obtain ⟨hjk, hjn, hT, hall⟩ := hJ.out
              clear hJ HT5
              by_cases hj : j < nl
              · obtain ⟨k1, rfl⟩ : ∃ k1, gk = k1 + 1 := ⟨gk - 1, by omega⟩
                obtain ⟨v, hx⟩ : ∃ x, vs[j]? = some x := ⟨_, List.getElem?_eq_getElem (by have := HI.out.1; omega)⟩
                obtain ⟨gv, hgv, x0⟩ := (HI.out.2.2.2.1.below hT.b) j v hx
                subst hgv
                have j0 : (0 : Int) ≤ (j : Int) := by omega
                have j1 : (j : Int) < (nl : Int) := by omega
                have lk := look_post hT.pm v
                cases hp : pM ls v with
                | none =>
                  rw [hp] at lk
                  have HZ := Lib.hid (And.intro (show ¬ LabOk 0 vs arcs ls from fun h => h.2.2.1 v (List.mem_of_getElem? hx) hp) hT.b)
                  clear hT hall hx hp hjk hj
                  go_wp2
                  go_ret
                  exact ⟨false, rfl, by simp [HZ.out.1], HZ.out.2⟩
                | some p =>
                  rw [hp] at lk
                  have HX := Lib.hid (show j + 1 + k1 = nl + 1 ∧ j + 1 ≤ nl ∧ Lm w wr mo mp arcs F (pF ls) ∧ ∀ v ∈ vs.take (j + 1), pM ls v ≠ none from ⟨by omega, by omega, hT, fun y hy => by
                    rw [List.take_add_one, hx] at hy
                    rcases List.mem_append.1 hy with hy | hy
                    · exact hall y hy
                    · obtain rfl : y = v := by simpa using hy
                      rw [hp]; simp⟩)
                  clear hT hall hx hp hjk hj
                  go_wp2
                  go_roundg k1
                  case measure => omega
                  case rel => exact ⟨j + 1, by go_num, HX⟩
              · obtain rfl : j = nl := by omega
                have jn : ¬ ((j : Int) < (j : Int)) := by omega
                rw [List.take_of_length_le (by have := HI.out.1; omega)] at hall
                have HZ := Lib.hid (And.intro hT (Lib.hid hall))
                clear hT hall hjk hjn hj
                go_wp2_with fail
                go_meet
                exact HZ.out
          case rest =>
            obtain ⟨hT, HV⟩ := hcut
            rename World => w6
            have HT6 := Lib.hid hT
            clear hT HT5
            go_wp2_with fail
            go_loopg [89] (nl + 1) (fun kq v89 w' => ∃ j : Nat, v89 = .int .i64 (j : Int) ∧ Hid (j + kq = nl + 1 ∧ j ≤ nl ∧ Lm w w' mo mp arcs F (pF ls) ∧ ∀ l ∈ ls.take j, ∀ v p, pM ls v = some p → (l.2.2.any (inSp p) = true ↔ Cl (fun x y => (x, y) ∈ arcs) l.1 v)))
            case atStart => exact ⟨0, rfl, Lib.hid ⟨by omega, by omega, HT6.out, fun v hv => by simp at hv⟩⟩
            case round =>
              obtain ⟨j, rfl, hJ⟩ := hrel
              obtain ⟨hjk, hjn, hT, hall⟩ := hJ.out
              clear hJ HT6
              by_cases hj : j < nl
              · obtain ⟨k1, rfl⟩ : ∃ k1, gk = k1 + 1 := ⟨gk - 1, by omega⟩
                obtain ⟨⟨s, ps, rs⟩, hx⟩ : ∃ x, ls[j]? = some x := ⟨_, List.getElem?_eq_getElem (by have := HI.out.2.2.1; omega)⟩
                obtain ⟨gd, od, Ar, cr, hgd, x0, x1, x2, hra, hrl⟩ := (HI.out.2.2.2.2.2.1.below hT.b) j s ps rs hx
                subst hgd
                obtain ⟨nr, hnr⟩ : ∃ r, rs.length = r := ⟨_, rfl⟩
                rw [hnr] at x2
                have j0 : (0 : Int) ≤ (j : Int) := by omega
                have j1 : (j : Int) < (nl : Int) := by omega
                have hT1 := hT.al (.cells #[.int .i64 s, .int .i64 ps, .slice Ar nr cr] 69)
                have hN : (fun x y => y ∈ rL (F x)) = fun x y => (x, y) ∈ arcs := by
                  funext x y
                  rw [hT.r x, mem_outA]
                have hre := reached_calls _ mo (mo + 2) F s (vs ++ ls.map (·.1)) hT1.om (List.mem_append_right _ (List.mem_map.2 ⟨_, List.mem_of_getElem? hx, rfl⟩)) (fun u hu y hy => by
                  rw [hT.r u, mem_outA] at hy
                  exact List.mem_append_left _ (HI.out.2.2.2.2.2.2 trivial _ hy)) (by rw [List.length_append, List.length_map]; have := HI.out.1; have := HI.out.2.2.1; omega) (fun u => by
                  rw [hT.r u]
                  have := outA_len arcs u
                  have := HI.out.2.1
                  omega)
                rw [hN] at hre
                have HRE := Lib.hid hre
                obtain ⟨g20, hg20⟩ : ∃ g, wr.heap.size = g := ⟨_, rfl⟩
                have HA := Lib.hid (And.intro (show At (wr.alloc (.cells #[.int .i64 s, .int .i64 ps, .slice Ar nr cr] 69)) g20 [.int .i64 s, .int .i64 ps, .slice Ar nr cr] 69 from At.made hg20 rfl) (And.intro hT1 (And.intro (hra.below ((Below.refl _ _).alloc (Nat.le_refl _) (.cells #[.int .i64 s, .int .i64 ps, .slice Ar nr cr] 69))) (And.intro hrl hnr))))
                have HJ := Lib.hid (And.intro hjk (And.intro hall hx))
                clear hT hT1 hN hre hra hrl hnr hjk hall hx hj
                go_wp2_with fail
                refine HRE.out.mono ?_
                clear HRE x0 x1 x2
                rintro e2 w7 ⟨S, rfl, hms, hS, b7⟩
                try rw [hg20]
                obtain ⟨bs, hbs⟩ : ∃ b, (wr.alloc (.cells #[.int .i64 s, .int .i64 ps, .slice Ar nr cr] 69)).heap.size = b := ⟨_, rfl⟩
                rw [hbs] at hms ⊢
                have hA7 := HA.out.1.below b7 HA.out.1.lt
                have hT7 := HA.out.2.1.below b7
                have hr7 := HA.out.2.2.1.below b7
                obtain ⟨o, hrun, hMR⟩ := hT7.pm.range (P := Tryz.prog) Tryz.underlying159
                have HW := Lib.hid (And.intro hA7 (And.intro hT7 (And.intro hr7 (And.intro hms (And.intro hS (And.intro HA.out.2.2.2.1 HA.out.2.2.2.2))))))
                have HM := Lib.hid (And.intro hMR ((Below.refl w7.heap.size w7).alloc (Nat.le_refl _) o))
                clear hA7 hT7 hr7 hms hS b7 HA hg20 hbs hMR
                go_wp2_with fail
                refine gen_world (fun W => MR W w7.heap.size mp (pF ls) [] ∧ Below w7.heap.size w7 W) HM.out ?_
                obtain ⟨r, hr⟩ : ∃ r, w7.heap.size = r := ⟨_, rfl⟩
                have HR := Lib.hid hr
                rw [hr]
                clear HM hrun
                rintro w8 ⟨hM, hb⟩
                rw [← hr] at hb
                have H1 := Lib.hid (And.intro hM hb)
                clear hM hb hr
                have hdone : ∀ {W : World} {done : List Int}, MR W r mp (pF ls) done → done.length ≤ nl := fun hM => by
                  have := nodup_le (m := ls.map (·.1)) hM.2.1 fun x hx => by
                    obtain ⟨u, hu⟩ := hM.all x hx
                    unfold pF pM at hu
                    cases hf : ls.reverse.find? (fun p => decide (p.1 = x)) with
                    | none => rw [hf] at hu; cases hu
                    | some q =>
                      have h1 := List.mem_reverse.1 (List.mem_of_find?_eq_some hf)
                      have h2 : q.1 = x := by simpa using List.find?_some hf
                      exact List.mem_map.2 ⟨q, h1, h2⟩
                  rw [List.length_map] at this
                  have := HI.out.2.2.1
                  omega
                go_loopg [22] (nl + 1) (fun kq v22 w' => Hid (∃ done, done.length + kq = nl + 1 ∧ MR w' r mp (pF ls) done ∧ Below w7.heap.size w7 w' ∧ ∀ v ∈ done, ∀ p, pM ls v = some p → (rs.any (inSp p) = true ↔ Cl (fun x y => (x, y) ∈ arcs) s v)))
                case atStart => exact Lib.hid ⟨[], by simp, H1.out.1, H1.out.2, fun v hv => by simp at hv⟩
                case round =>
                  obtain ⟨done, hdk, hM, hb, hok⟩ := hrel.out
                  clear hrel H1
                  have hdK := hdone hM
                  rcases hM.next (P := Tryz.prog) 0 with ⟨hend, hnx⟩ | ⟨a, u, w9, hf, hnd, hnx, hM2, hg, hsz, hent⟩
                  · have HX := Lib.hid (show j + 1 + k1 = nl + 1 ∧ j + 1 ≤ nl ∧ Lm w wr mo mp arcs F (pF ls) ∧ ∀ l ∈ ls.take (j + 1), ∀ v p, pM ls v = some p → (l.2.2.any (inSp p) = true ↔ Cl (fun x y => (x, y) ∈ arcs) l.1 v) from ⟨by have := HJ.out.1; omega, by omega, HW.out.2.1.below hb, fun l hl v p hp => by
                      rw [List.take_add_one, HJ.out.2.2] at hl
                      rcases List.mem_append.1 hl with hl | hl
                      · exact HJ.out.2.1 l hl v p hp
                      · obtain rfl : l = (s, ps, rs) := by simpa using hl
                        exact hok v (hend v (.int .i64 p) (by unfold pF; rw [hp]; rfl)) p hp⟩)
                    clear hM hb hok hend hdk hdK hdone
                    go_wp2
                    go_roundg k1
                    case measure => omega
                    case rel => exact ⟨j + 1, by go_num, HX⟩
                  · obtain ⟨k2, rfl⟩ : ∃ k2, gk = k2 + 1 := ⟨gk - 1, by omega⟩
                    obtain ⟨p, hp, rfl⟩ : ∃ p, pM ls a = some p ∧ Value.int .i64 p = u := by
                      unfold pF at hf
                      cases hq : pM ls a with
                      | none => rw [hq] at hf; cases hf
                      | some p => rw [hq] at hf; exact ⟨p, rfl, Option.some.inj hf⟩
                    have hb9 : Below w7.heap.size w7 w9 := hb.grown hg hb.size (fun k hk => by cases hk; have := HR.out; omega)
                    have hb10 : Below w7.heap.size w7 (w9.alloc (.cells #[.int .i64 p] 3)) := hb9.alloc hb9.size _
                    have q2 := (HW.out.1.below hb10 HW.out.1.lt).cell 2 rfl
                    have hco := contains_calls (w9.alloc (.cells #[.int .i64 p] 3)) Ar cr w9.heap.size rs p (HW.out.2.2.1.below hb10) ((At.made (w := w9) (a := #[.int .i64 p]) rfl rfl).cell 0 rfl) HW.out.2.2.2.2.2.1
                    rw [HW.out.2.2.2.2.2.2] at hco
                    obtain ⟨an, han⟩ : ∃ r, rs.any (inSp p) = r := ⟨_, rfl⟩
                    rw [han] at hco
                    have HCO := Lib.hid hco
                    have HS := Lib.hid (And.intro hdk (And.intro hok (And.intro hp (And.intro hb10 (And.intro (hM2.below ((Below.refl _ _).alloc (Nat.le_refl _) (.cells #[.int .i64 p] 3))) han)))))
                    clear hM hb hok hdk hdK hdone hf hnd hM2 hg hsz hb9 hb10 hco hp han
                    go_wp2_with fail
                    refine HCO.out.mono ?_
                    clear HCO hnx hent q2
                    rintro e3 w10 ⟨rfl, b10⟩
                    have HB := Lib.hid (And.intro (HS.out.2.2.2.1.trans (b10.mono HS.out.2.2.2.1.size)) (HS.out.2.2.2.2.1.below b10))
                    have lk := look_seen (HW.out.2.2.2.1.below HB.out.1 HW.out.2.2.2.1.lt) a
                    have hcl := HW.out.2.2.2.2.1 a
                    have hyes : (an = true ↔ Cl (fun x y => (x, y) ∈ arcs) s a) → ∃ done, done.length + k2 = nl + 1 ∧ MR w10 r mp (pF ls) done ∧ Below w7.heap.size w7 w10 ∧ ∀ v ∈ done, ∀ p, pM ls v = some p → (rs.any (inSp p) = true ↔ Cl (fun x y => (x, y) ∈ arcs) s v) := fun hy => ⟨done ++ [a], by rw [List.length_append, List.length_singleton]; have := HS.out.1; omega, HB.out.2, HB.out.1, fun v hv q hq => by
                      rcases List.mem_append.1 hv with hv | hv
                      · exact HS.out.2.1 v hv q hq
                      · obtain rfl : v = a := by simpa using hv
                        rw [HS.out.2.2.1] at hq
                        cases hq
                        rw [HS.out.2.2.2.2.2]
                        exact hy⟩
                    have hno : ¬ (an = true ↔ Cl (fun x y => (x, y) ∈ arcs) s a) → ¬ LabOk 0 vs arcs ls := fun hn h => hn (by
                      have := h.2.2.2 _ (List.mem_of_getElem? HJ.out.2.2) a p HS.out.2.2.1
                      rw [HS.out.2.2.2.2.2] at this
                      exact this)
                    have HBE := Lib.hid (HW.out.2.1.below HB.out.1).b
                    clear b10
                    by_cases haS : a ∈ S
                    · rw [seenF_yes haS] at lk
                      cases an with
                      | true =>
                        have HY := Lib.hid (hyes ⟨fun _ => hcl.1 haS, fun _ => rfl⟩)
                        clear hyes hno hcl haS HS HB
                        go_wp2
                        go_roundg k2
                        case measure => omega
                        case rel => exact Lib.hid HY.out
                      | false =>
                        have HY := Lib.hid (hno fun h => by have := h.2 (hcl.1 haS); cases this)
                        clear hyes hno hcl haS HS HB
                        go_wp2
                        go_ret
                        exact ⟨false, rfl, by simp [HY.out], HBE.out⟩
                    · rw [seenF_no haS] at lk
                      cases an with
                      | true =>
                        have HY := Lib.hid (hno fun h => haS (hcl.2 (h.1 rfl)))
                        clear hyes hno hcl haS HS HB
                        go_wp2
                        go_ret
                        exact ⟨false, rfl, by simp [HY.out], HBE.out⟩
                      | false =>
                        have HY := Lib.hid (hyes ⟨fun h => (by cases h), fun h => absurd (hcl.2 h) haS⟩)
                        clear hyes hno hcl haS HS HB
                        go_wp2
                        go_roundg k2
                        case measure => omega
                        case rel => exact Lib.hid HY.out
              · obtain rfl : j = nl := by omega
                have jn : ¬ ((j : Int) < (j : Int)) := by omega
                rw [List.take_of_length_le (by have := HI.out.2.2.1; omega)] at hall
                have HZ := Lib.hid (And.intro (show LabOk 0 vs arcs ls from ⟨rfl, HI.out.2.2.1.trans HI.out.1.symm, HV.out, hall⟩) hT.b)
                clear hT hall hjk hjn hj
                go_wp2
                go_ret
                exact .inr ⟨rfl, HZ.out.1, HZ.out.2⟩
    · have hd1 : ((nl : Int) != (n : Int)) = true := by simpa using (show ¬ ((nl : Int) = (n : Int)) by omega)
      have HZ := Lib.hid (show ¬ LabOk 0 vs arcs ls from fun h => hdn (HI.out.2.2.1.symm.trans (h.2.1.trans HI.out.1)))
      clear hdn
      go_wp2
      go_ret
      exact ⟨false, rfl, by simp [HZ.out], HB1.out⟩
  · have hz1 : ((code : Int) != 0) = true := by simpa using (show ¬ ((code : Int) = 0) by omega)
    have HZ := Lib.hid (show ¬ LabOk code vs arcs ls from fun h => hz h.1)
    clear hz
    go_wp2
    go_ret
    exact ⟨false, rfl, by simp [HZ.out], HB1.out⟩
end Go.Proofs.YtgihncjllelonaaGreat.Ce

/- Lists of lists and lists of labels as arguments. -/
namespace Go.Proofs.YtgihncjllelonaaGreat.Ce
open Go Go.RowKit Go.ChangeShapes Go.WideShapes Go.ChangeAt Go.Deep Go.Proofs.YtgihncjllelonaaGreat.Mem Go.Proofs.YtgihncjllelonaaGreat.Lw
set_option linter.unusedSimpArgs false
set_option linter.unusedVariables false

theorem plain_of {w : World} {a : Addr} {v : Value} (h : w.cell? a = some v) : a = ⟨a.block, a.off, none⟩ := by
  obtain ⟨b, o, s⟩ := a
  unfold World.cell? at h
  cases s with
  | none => rfl
  | some s =>
    split at h
    · simp at h
    · cases h
theorem add_plain (b o j : Nat) : Addr.add ⟨b, o, none⟩ j = ⟨b, o + j, none⟩ := by
  unfold Addr.add
  split
  · rename_i h
    rw [h]
    rfl
  · rfl
section
end
end Go.Proofs.YtgihncjllelonaaGreat.Ce
