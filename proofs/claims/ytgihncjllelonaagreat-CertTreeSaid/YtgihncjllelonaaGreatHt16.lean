/- tree.Tree: is, take. -/
import Derived.Test.YtgihncjllelonaaGreatHt5
import Derived.Test.YtgihncjllelonaaGreatHt15
import Derived.Deep.CutBlock
import Derived.Deep.LoopGhost
namespace Go.Proofs.YtgihncjllelonaaGreat.Tb
open Go Go.RowKit Go.MapKept Go.Proofs.YtgihncjllelonaaGreat.Mem Go.Proofs.YtgihncjllelonaaGreat.Sl Go.Proofs.YtgihncjllelonaaGreat.Lw Go.Proofs.YtgihncjllelonaaGreat.Wt Go.Proofs.YtgihncjllelonaaGreat.Tj Go.Proofs.YtgihncjllelonaaGreatW.PrintWords Go.Proofs.YtgihncjllelonaaGreatW.PrintLast
attribute [local go_sem ↓] Go.wp_at_zero Go.wp_at_succ
set_option linter.unusedSimpArgs false
set_option linter.unusedVariables false

theorem is_calls (w : World) (gt n cv : Nat) (A : Option Addr) (sv : List Int) (v1 v2 v3 : Value) (s : Int) (hat : At w gt [.int .i64 s, .slice A n cv, v2, v3] 115) (hv : RdI w A sv) (hn : sv.length = n) (hl : sv.length ≤ 1000) (hs : sv.Pairwise (· ≤ ·)) (x : Int) :
    Calls Tryz.prog 104 #[.pointer (some ⟨gt, 0, none⟩), .int .i64 x] w fun e w' => e = .returned (.bool (sv.contains x)) ∧ Below w.heap.size w w' := by
  have hc := search_calls w A cv sv x hv (by omega) hs
  rw [hn] at hc
  obtain ⟨b, hb⟩ : ∃ b, sv.contains x = b := ⟨_, rfl⟩
  obtain ⟨i, hi⟩ : ∃ i, sv.countP (· < x) = i := ⟨_, rfl⟩
  rw [hb, hi] at hc
  rw [hb]
  have HC := Lib.hid hc
  have q1 := hat.cell 1 rfl
  clear hat hv hn hl hs hc hb hi
  go_enter Tryz.func104, Tryz.ntmps104
  go_wp2_with fail
  refine HC.out.mono ?_
  clear HC q1
  rintro e w1 ⟨rfl, q, rfl⟩
  go_wp2
  go_ret
  exact ⟨rfl, Below.drN (Below.refl _ _) q⟩

theorem zero_edge : ∀ w : World, (zeroValue 74).run Tryz.prog w = .ok (.agg #[.int .i64 0, .int .i64 0, .int .i64 0, .int .u32 0]) w := fun w => by kernel_rfl
structure Tk (w0 : World) (gt me ms n cv : Nat) (A Ae : Option Addr) (sv : List Int) (es : List Ed) (s : Int) (j : Nat) (w : World) : Prop where
  hat : At w gt [.int .i64 s, .slice A n cv, .map (some me), .map (some ms)] 115
  hv : RdI w A sv
  hm : MQ w me (edF (es.take j))
  he : RdD w Ae es
  k : Kpt (fun k => k = me) w0 w
  u : ((es.take j).map (·.1)).Nodup
section
variable {w0 w w' : World} {gt me ms n cv j : Nat} {A Ae : Option Addr} {sv : List Int} {es : List Ed} {s : Int}
theorem Tk.below (h : Tk w0 gt me ms n cv A Ae sv es s j w) (hb : Below w.heap.size w w') : Tk w0 gt me ms n cv A Ae sv es s j w' :=
  ⟨h.hat.below hb h.hat.lt, h.hv.below hb, h.hm.below hb h.hm.lt, h.he.below hb, h.k.below hb, h.u⟩
theorem Tk.look (h : Tk w0 gt me ms n cv A Ae sv es s j w) (e : Int) : (Instr.lookup 80 (.map (some me)) (.int .i64 e) true).run Tryz.prog w = .ok (.tuple #[((edF (es.take j)) e).getD (.agg #[.int .i64 0, .int .i64 0, .int .i64 0, .int .u32 0]), .bool ((edF (es.take j)) e).isSome]) w :=
  h.hm.lookup_ok Tryz.underlying80 Tryz.underlying3 zero_edge e
theorem Tk.put (h : Tk w0 gt me ms n cv A Ae sv es s j w) {e u v : Int} {b : Nat} (hx : es[j]? = some (e, u, v, b)) (hn : edF (es.take j) e = none) : ∃ o, (Instr.mapUpdate 80 (.map (some me)) (.int .i64 e) (.agg #[.int .i64 e, .int .i64 u, .int .i64 v, .int .u32 (b : Int)])).run Tryz.prog w = .ok () (putObj w me o) ∧ Tk w0 gt me ms n cv A Ae sv es s (j + 1) (putObj w me o) := by
  obtain ⟨o, hr, hm⟩ := h.hm.update Tryz.underlying80 Tryz.underlying3 e (.agg #[.int .i64 e, .int .i64 u, .int .i64 v, .int .u32 (b : Int)])
  have hk : Kpt (fun k => k = me) w (putObj w me o) := ⟨rfl, rfl, rfl, by rw [putObj_size]; exact Nat.le_refl _, fun k _ hn => putObj_far hn⟩
  have h1 := edF_none.1 hn
  have ht : es.take (j + 1) = es.take j ++ [(e, u, v, b)] := by rw [List.take_add_one, hx]; rfl
  have hs := edF_step (x := (e, u, v, b)) h1
  refine ⟨o, hr, h.hat.kept hk (fun e => h.hm.ne h.hat e), rdI_keptM h.hv h.hm hk, by rw [ht, ← hs]; exact hm, rdD_keptM h.he h.hm hk, h.k.trans hk, ?_⟩
  rw [ht, List.map_append, List.nodup_append]
  refine ⟨h.u, by simp, fun a ha c hc e' => ?_⟩
  simp only [List.map_cons, List.map_nil, List.mem_singleton] at hc
  subst hc e'
  obtain ⟨p, hp, hpe⟩ := List.mem_map.1 ha
  exact h1 p hp hpe
end
theorem dup_not {es : List Ed} {j : Nat} {x p : Ed} (hx : es[j]? = some x) (hp : p ∈ es.take j) (he : p.1 = x.1) : ¬ (es.map (·.1)).Nodup := fun hn => by
  obtain ⟨i, hi⟩ := List.mem_iff_getElem?.1 hp
  rw [List.getElem?_take] at hi
  split at hi
  · rename_i hij
    have h1 : (es.map (·.1))[i]? = some x.1 := by rw [List.getElem?_map, hi, ← he]; rfl
    have h2 : (es.map (·.1))[j]? = some x.1 := by rw [List.getElem?_map, hx]; rfl
    have := (List.getElem?_inj (List.getElem?_eq_some_iff.1 h1).1 hn).1 (h1.trans h2.symm)
    omega
  · cases hi
def tb54_1.T1 : Bool × List (List Nat × List Nat) := (true, [([], []), ([0], [0]), ([1], [1]), ([2], [2]), ([3], [3]), ([4, 4], [4]), ([5], [5]), ([], []), ([7], [7]), ([8], [8]), ([9], [9]), ([10], [10]), ([6, 11], [6, 11])])
def tb54_1.B1 : List Nat := [0, 1, 3, 7, 15, 31, 63, 0, 128, 384, 896, 1920, 4095]
theorem tb54_1.tab1 : rtab .any (opsOf Tryz.f54 1) = tb54_1.T1 := by kernel_rfl
theorem tb54_1.bits1 : waitsOk tb54_1.T1.2 tb54_1.B1 = true := by kernel_rfl
def tb54_6.T6 : Bool × List (List Nat × List Nat) := (true, [([], []), ([0], [0]), ([1], [1]), ([2], [2]), ([], []), ([4], [4]), ([3, 5], [3, 5]), ([6], [6]), ([7], [7]), ([7], [7]), ([], []), ([10, 8, 0, 1, 2, 3, 4, 5, 6, 7, 8, 10], [8, 10]), ([9, 11, 0, 1, 2, 3, 4, 5, 6, 7, 8, 9, 10, 11], [9])])
def tb54_6.B6 : List Nat := [0, 1, 3, 7, 0, 16, 63, 127, 255, 255, 0, 1535, 4095]
theorem tb54_6.tab6 : rtab .any (opsOf Tryz.f54 6) = tb54_6.T6 := by kernel_rfl
theorem tb54_6.bits6 : waitsOk tb54_6.T6.2 tb54_6.B6 = true := by kernel_rfl
def tb54_9.T9 : Bool × List (List Nat × List Nat) := (true, [([], []), ([0], [0]), ([1], [1]), ([2], [2]), ([], []), ([4], [4]), ([], []), ([3, 5, 6, 0, 1, 2, 3, 4, 5, 6], [3, 5, 6])])
def tb54_9.B9 : List Nat := [0, 1, 3, 7, 0, 16, 0, 127]
theorem tb54_9.tab9 : rtab .any (opsOf Tryz.f54 9) = tb54_9.T9 := by kernel_rfl
theorem tb54_9.bits9 : waitsOk tb54_9.T9.2 tb54_9.B9 = true := by kernel_rfl
set_option maxHeartbeats 16000000 in
set_option maxRecDepth 100000 in
theorem take_calls (w : World) (gt me ms n cv m ce : Nat) (A Ae : Option Addr) (sv : List Int) (es : List Ed) (s : Int) (hat : At w gt [.int .i64 s, .slice A n cv, .map (some me), .map (some ms)] 115) (hv : RdI w A sv) (hn : sv.length = n) (hl : sv.length ≤ 1000) (hs : sv.Pairwise (· ≤ ·)) (hm : MQ w me (fun _ => none)) (he : RdD w Ae es) (hme : es.length = m) (hel : es.length ≤ 1000) (hbit : ∀ p ∈ es, p.2.2.2 < 4294967296) :
    Calls Tryz.prog 54 #[.pointer (some ⟨gt, 0, none⟩), .slice Ae m ce] w fun e w' => e = .returned (.int .i64 ((tcode sv es s : Nat) : Int)) ∧ Kpt (fun k => k = me) w w' ∧ (tcode sv es s = 0 → MQ w' me (edF es)) := by
  have hcl : ∀ W, Below w.heap.size w W → Calls Tryz.prog 52 #[.slice A n cv] W fun e w' => ∃ v', e = .returned v' ∧ w'.ownsRow W.heap.size 3 1 v' n (ints sv) ∧ Below W.heap.size W w' := fun W hW => by
    rw [← hn]
    exact clone_calls W A cv sv (hv.below hW) (by omega)
  obtain ⟨cl, hcl2⟩ : ∃ cl, (Lib.compact sv).length = cl := ⟨_, rfl⟩
  have hcp : ∀ (W : World) (B : Nat) (A1 : Option Addr) (c1 : Nat), W.ownsRow B 3 1 (.slice A1 n c1) n (ints sv) → Calls Tryz.prog 103 #[.slice A1 n c1] W fun e w' => (∃ A c, e = .returned (.slice A cl c)) ∧ W.grownBy w' (Value.slice A1 n c1).ownBlock := fun W B A1 c1 ho => by
    rw [← hcl2]
    exact compact_calls W B _ sv (by rw [hn]; exact ho) (by omega)
  have HCL := Lib.hid hcl
  have HCP := Lib.hid hcp
  have hcn : cl = n ↔ sv.Nodup := by rw [← hcl2, ← hn]; exact compact_len hs
  have HT0 := Lib.hid (show Tk w gt me ms n cv A Ae sv es s 0 w from ⟨hat, hv, hm, he, Kpt.refl _ _, by simp⟩)
  obtain ⟨code, hcode⟩ : ∃ c, tcode sv es s = c := ⟨_, rfl⟩
  rw [hcode]
  have HL := Lib.hid (And.intro hs (And.intro hcn (And.intro hcode (And.intro hn (And.intro hl (And.intro hme (And.intro hel hbit)))))))
  have m0 : m ≤ 1000 := by omega
  clear hat hv hn hl hs hm he hme hel hbit hcl hcp hcl2 hcn hcode
  go_enter Tryz.func54, Tryz.ntmps54
  go_upto_region 1 with (fail)
  obtain ⟨wd, hwd⟩ : ∃ wd, w.drew = wd := ⟨_, rfl⟩
  have HB := Lib.hid (show Below w.heap.size w wd from hwd ▸ (Below.refl _ _).drew)
  have HT := Lib.hid (HT0.out.below HB.out)
  clear HT0
  refine start_ (n := 13) (S := fun w' => w'.cell? ⟨gt, 1, none⟩ = some (.slice A n cv)) (ds := []) (bA 13 0) (by kernel_rfl) rfl rfl ((by rw [hwd]; exact HT.out.hat.cell 1 rfl)) (fun hHeld => ?_)
  rw [hwd] at hHeld ⊢
  refine with_tabW tb54_1.tab1 tb54_1.bits1 (fun HT_ HW_ => ?_)
  refine pw_ 0 17 (bA 13 1) HT_.out ?_
  refine pw_ 1 18 (bA 13 3) HT_.out ?_
  refine pw_ 2 19 (bA 13 7) HT_.out ?_
  refine pw_ 7 24 (bA 13 135) HT_.out ?_
  refine pw_ 8 25 (bA 13 391) HT_.out ?_
  refine pw_ 9 26 (bA 13 903) HT_.out ?_
  refine tw_ 3 20 (bA 13 911) HT_.out HW_.out hHeld (hv := by intro w' s0; go_simp; with_reducible rfl) (h := ?_)
  refine tw_ 10 27 (bA 13 1935) HT_.out HW_.out hHeld (hv := by intro w' s0; go_simp; with_reducible rfl) (h := ?_)
  refine pw_ 11 28 (bA 13 3983) HT_.out ?_
  refine one_ (i := 4) (N := some 21) (bA 13 3999) rfl rfl (one_of HT_.out (by kernel_rfl)) (by decide) (fun K hK => ?_)
  refine gw_ Tryz.func52 #[.slice A n cv] ?_
  with_reducible refine ((HCL.out wd HB.out)).mono ?_
  rintro e1 w1 ⟨v1, rfl, o1, b1⟩
  refine ⟨_, rfl, ?_⟩
  obtain ⟨A1, c1, rfl⟩ := Lw.own_slice o1
  have HC := Lib.hid (HCP.out w1 wd.heap.size A1 c1 o1)
  have HT1 := Lib.hid (HT.out.below b1)
  refine hK.out _ _ ((HT1.out.hat.cell 1 rfl)) (fun hHeld => ?_)
  clear hK K
  refine norm_ (a' := ?_) ?_ ?_
  rotate_left
  · show Act.put _ (some 21) _ = _
    simp only [Act.put, pA, pB, pC, pD, pE]; rfl
  refine one_ (i := 5) (N := some 22) (bA 13 4031) rfl rfl (one_of HT_.out (by kernel_rfl)) (by decide) (fun K hK => ?_)
  refine gw_ Tryz.func103 #[.slice A1 n c1] ?_
  with_reducible refine (HC.out).mono ?_
  rintro e2 w2 ⟨⟨A2, c2, rfl⟩, hg2⟩
  refine ⟨_, rfl, ?_⟩
  have HB2 := Lib.hid ((b1.grown hg2 b1.size fun k hk => (o1.lt k hk).1))
  have HT2 := Lib.hid (HT.out.below HB2.out)
  refine hK.out _ _ ((HT2.out.hat.cell 1 rfl)) (fun hHeld => ?_)
  clear hK K
  refine norm_ (a' := ?_) ?_ ?_
  rotate_left
  · show Act.put _ (some 22) _ = _
    simp only [Act.put, pA, pB, pC, pD, pE]; rfl
  refine pw_ 6 23 (bA 13 4095) HT_.out ?_
  refine pw_ 12 29 (bA 13 8191) HT_.out ?_
  refine done_ (done_of HT_.out (by kernel_rfl)) ?_
  clear hHeld HT_ HW_
  have HT3 := Lib.hid HT2.out
  clear HT HT1 HT2 HB2 b1 o1 hg2 hwd HC HCL HCP HB
  by_cases hd : cl = n
  · subst hd
    have HN := Lib.hid (HL.out.2.1.1 rfl)
    have hcc : ((cl : Int) != (cl : Int)) = false := by simp
    go_upto_block 0 with (fail)
    try rw [hcc]
    clear hcc
    go_cut [6, 7, 8] from 32 to 54 (fun s6 s7 s8 wx => Tk w gt me ms cl cv A Ae sv es s m wx)
    case first =>
      go_wp2_with fail
      go_loopg [32] (m + 1) (fun kq v32 w' => ∃ j : Nat, v32 = .int .i64 (j : Int) ∧ Hid (j + kq = m + 1 ∧ j ≤ m ∧ Tk w gt me ms cl cv A Ae sv es s j w'))
      case atStart => exact ⟨0, rfl, Lib.hid ⟨by omega, by omega, HT3.out⟩⟩
      case round =>
        obtain ⟨j, rfl, hI⟩ := hrel
        obtain ⟨hjk, hjm, hT⟩ := hI.out
        clear hI HT3
        by_cases hj : j < m
        · obtain ⟨k1, rfl⟩ : ∃ k1, gk = k1 + 1 := ⟨gk - 1, by omega⟩
          obtain ⟨⟨e, u, v, b⟩, hx⟩ : ∃ x, es[j]? = some x := ⟨_, List.getElem?_eq_getElem (by have := HL.out.2.2.2.2.2.1; omega)⟩
          obtain ⟨ge, rfl, x0, x1, x2, x3⟩ := hT.he j e u v b hx
          have j0 : (0 : Int) ≤ (j : Int) := by omega
          have j1 : (j : Int) < (m : Int) := by omega
          have HT4 := Lib.hid hT
          have HI := Lib.hid (And.intro hjk hx)
          clear hT hjk hjm hj hx
          go_upto_region 6 with (fail)
          clear x0 x1 x2 x3
          obtain ⟨gx, hgx⟩ : ∃ g, wr.heap.size = g := ⟨_, rfl⟩
          refine gen_world (fun W => Tk w gt me ms cl cv (A) (some ⟨ge, 0, none⟩) sv es s j W ∧ At W gx [.int .i64 e, .int .i64 u, .int .i64 v, .int .u32 (b : Int)] 74) ⟨HT4.out.below ((Below.refl _ _).alloc (Nat.le_refl _) _), At.made hgx rfl⟩ ?_
          rw [hgx]
          clear HT4 hgx
          rintro wy ⟨hT, hX⟩
          obtain ⟨wd, hwd⟩ : ∃ wd, wy.drew = wd := ⟨_, rfl⟩
          have hbd : Below wy.heap.size wy wd := hwd ▸ (Below.refl _ _).drew
          have HT := Lib.hid (hT.below hbd)
          have HX := Lib.hid (hX.below hbd hX.lt)
          have hlk := HT.out.look e
          clear hT hX hbd
          cases hf : edF (es.take j) e with
          | none =>
            have HLK := Lib.hid (fun (W : World) (hb : Below wd.heap.size wd W) => show (Instr.lookup 80 (.map (some me)) (.int .i64 e) true).run Tryz.prog W = .ok (.tuple #[.agg #[.int .i64 0, .int .i64 0, .int .i64 0, .int .u32 0], .bool false]) W from by
              have := (HT.out.below hb).look e
              rwa [hf] at this)
            have HF := Lib.hid hf
            clear hlk hf
            refine start_ (n := 13) (S := fun w' => w'.cell? ⟨gt, 2, none⟩ = some (.map (some me)) ∧ w'.cell? ⟨gx, 0, none⟩ = some (.int .i64 e) ∧ (Instr.lookup 80 (.map (some me)) (.int .i64 e) true).run Tryz.prog w' = .ok (.tuple #[.agg #[.int .i64 0, .int .i64 0, .int .i64 0, .int .u32 0], .bool false]) w') (ds := [11]) (bA 13 0) (by kernel_rfl) rfl rfl ⟨(by rw [hwd]; exact HT.out.hat.cell 2 rfl), (by rw [hwd]; exact HX.out.cell 0 rfl), (by rw [hwd]; exact HLK.out wd (Below.refl _ _))⟩ (fun hHeld => ?_)
            rw [hwd] at hHeld ⊢
            refine with_tabW tb54_6.tab6 tb54_6.bits6 (fun HT_ HW_ => ?_)
            refine pw_ 0 37 (bA 13 1) HT_.out ?_
            refine pw_ 1 38 (bA 13 3) HT_.out ?_
            refine pw_ 2 39 (bA 13 7) HT_.out ?_
            refine pw_ 4 41 (bA 13 23) HT_.out ?_
            refine tw_ 3 40 (bA 13 31) HT_.out HW_.out hHeld (hv := by rintro w' ⟨s0, s1, s2⟩; go_simp; with_reducible rfl) (h := ?_)
            refine tw_ 5 42 (bA 13 63) HT_.out HW_.out hHeld (hv := by rintro w' ⟨s0, s1, s2⟩; go_simp; with_reducible rfl) (h := ?_)
            refine tw_ 6 43 (bA 13 127) HT_.out HW_.out hHeld (hv := by rintro w' ⟨s0, s1, s2⟩; go_simp; with_reducible rfl) (h := ?_)
            refine pw_ 7 36 (bA 13 255) HT_.out ?_
            refine pw_ 8 44 (bA 13 511) HT_.out ?_
            refine pw_ 9 45 (bA 13 1023) HT_.out ?_
            refine one_ (i := 10) (N := some 7) (bA 13 2047) rfl rfl (one_of HT_.out (by kernel_rfl)) (by decide) (fun K hK => ?_)
            refine value_ (w1 := ?_) (v := ?_) (by rfl) rfl ?_ ?_
            rotate_left 2
            · go_simp
              constructor
              · rfl
              · rfl
            refine hK.out _ _ ⟨(HT.out.hat.al.cell 2 rfl), (HX.out.al.cell 0 rfl), (HLK.out _ ((Below.refl _ _).alloc (Nat.le_refl _) _))⟩ (fun hHeld => ?_)
            clear hK K
            refine norm_ (a' := ?_) ?_ ?_
            rotate_left
            · show Act.put _ (some 7) _ = _
              simp only [Act.put, pA, pB, pC, pD, pE]; rfl
            refine last_ (i := 11) (N := none) (bA 13 4095) rfl rfl (one_of HT_.out (by kernel_rfl)) (by decide) (fun K hK => ?_)
            refine skip_ (w1 := ?_) (by rfl) rfl ?_ ?_
            rotate_left; · go_simp; rfl
            refine hK.out _ _ ?_; clear hK K
            refine pw_ 12 8 (bA 13 8191) HT_.out ?_
            refine done_ (done_of HT_.out (by kernel_rfl)) ?_
            clear hHeld HT_ HW_
            refine gen_then (fun W => Tk w gt me ms cl cv (A) (some ⟨ge, 0, none⟩) sv es s j W ∧ At W gx [.int .i64 e, .int .i64 u, .int .i64 v, .int .u32 (b : Int)] 74) ⟨HT.out.below ((Below.refl _ _).alloc (Nat.le_refl _) _), HX.out.al⟩ ?_
            clear HT HX hwd HLK
            rintro wy ⟨hT, hX⟩
            have HT4 := Lib.hid hT
            have HX4 := Lib.hid hX
            clear hT hX
            go_upto_region 9 with (fail)
            obtain ⟨wd, hwd⟩ : ∃ wd, wy.drew = wd := ⟨_, rfl⟩
            have hbd : Below wy.heap.size wy wd := hwd ▸ (Below.refl _ _).drew
            have HT := Lib.hid (HT4.out.below hbd)
            have HX := Lib.hid (HX4.out.below hbd HX4.out.lt)
            obtain ⟨o, hr, hT⟩ := HT.out.put HI.out.2 HF.out
            have HT5 := Lib.hid hT
            clear hbd HT4 HX4 hT
            refine start_ (n := 8) (S := fun w' => w'.cell? ⟨gt, 2, none⟩ = some (.map (some me)) ∧ w'.cell? ⟨gx, 0, none⟩ = some (.int .i64 e) ∧ w'.cell? ⟨gx, 1, none⟩ = some (.int .i64 u) ∧ w'.cell? ⟨gx, 2, none⟩ = some (.int .i64 v) ∧ w'.cell? ⟨gx, 3, none⟩ = some (.int .u32 (b : Int))) (ds := [7]) (bA 8 0) (by kernel_rfl) rfl rfl ⟨(by rw [hwd]; exact HT.out.hat.cell 2 rfl), (by rw [hwd]; exact HX.out.cell 0 rfl), (by rw [hwd]; exact HX.out.cell 1 rfl), (by rw [hwd]; exact HX.out.cell 2 rfl), (by rw [hwd]; exact HX.out.cell 3 rfl)⟩ (fun hHeld => ?_)
            rw [hwd] at hHeld ⊢
            refine with_tabW tb54_9.tab9 tb54_9.bits9 (fun HT_ HW_ => ?_)
            refine pw_ 0 47 (bA 8 1) HT_.out ?_
            refine pw_ 1 48 (bA 8 3) HT_.out ?_
            refine pw_ 2 49 (bA 8 7) HT_.out ?_
            refine pw_ 4 51 (bA 8 23) HT_.out ?_
            refine tw_ 3 50 (bA 8 31) HT_.out HW_.out hHeld (hv := by rintro w' ⟨s0, s1, s2, s3, s4⟩; go_simp; with_reducible rfl) (h := ?_)
            refine tw_ 5 52 (bA 8 63) HT_.out HW_.out hHeld (hv := by rintro w' ⟨s0, s1, s2, s3, s4⟩; go_simp; with_reducible rfl) (h := ?_)
            refine tw_ 6 53 (bA 8 127) HT_.out HW_.out hHeld (hv := by rintro w' ⟨s0, s1, s2, s3, s4⟩; go_simp; with_reducible rfl) (h := ?_)
            refine last_ (i := 7) (N := none) (bA 8 255) rfl rfl (one_of HT_.out (by kernel_rfl)) (by decide) (fun K hK => ?_)
            refine skip_ (w1 := ?_) (by rfl) rfl ?_ ?_
            rotate_left; · go_simp; rfl
            refine hK.out _ _ ?_; clear hK K
            refine done_ (done_of HT_.out (by kernel_rfl)) ?_
            clear hHeld HT_ HW_
            have HX := Lib.hid (show j + 1 + k1 = m + 1 ∧ j + 1 ≤ m ∧ Tk w gt me ms cl cv A (some ⟨ge, 0, none⟩) sv es s (j + 1) (putObj wd me o) from ⟨by have := HI.out.1; omega, by omega, HT5.out⟩)
            clear HT HT5 hr hwd HI HF
            go_wp2
            go_roundg k1
            case measure => omega
            case rel => exact ⟨j + 1, by go_num, HX⟩
          | some q =>
            obtain ⟨⟨e', u', v', b'⟩, hp, he', hq⟩ : ∃ p : Ed, p ∈ es.take j ∧ p.1 = e ∧ edV p = q := by
              unfold edF at hf
              cases hff : (es.take j).find? (fun p => decide (p.1 = e)) with
              | none => rw [hff] at hf; cases hf
              | some p =>
                rw [hff] at hf
                cases hf
                exact ⟨p, List.mem_of_find?_eq_some hff, by simpa using List.find?_some hff, rfl⟩
            subst hq
            have HLK := Lib.hid (fun (W : World) (hb : Below wd.heap.size wd W) => show (Instr.lookup 80 (.map (some me)) (.int .i64 e) true).run Tryz.prog W = .ok (.tuple #[.agg #[.int .i64 e', .int .i64 u', .int .i64 v', .int .u32 (b' : Int)], .bool true]) W from by
              have := (HT.out.below hb).look e
              rwa [hf] at this)
            have hcd : code = 2 := HL.out.2.2.1.symm.trans ((tcode_eq HN.out).trans (if_pos (dup_not HI.out.2 hp he')))
            subst hcd
            clear hlk hf hp he'
            refine start_ (n := 13) (S := fun w' => w'.cell? ⟨gt, 2, none⟩ = some (.map (some me)) ∧ w'.cell? ⟨gx, 0, none⟩ = some (.int .i64 e) ∧ (Instr.lookup 80 (.map (some me)) (.int .i64 e) true).run Tryz.prog w' = .ok (.tuple #[(.agg #[.int .i64 e', .int .i64 u', .int .i64 v', .int .u32 (b' : Int)]), .bool true]) w') (ds := [11]) (bA 13 0) (by kernel_rfl) rfl rfl ⟨(by rw [hwd]; exact HT.out.hat.cell 2 rfl), (by rw [hwd]; exact HX.out.cell 0 rfl), (by rw [hwd]; exact HLK.out wd (Below.refl _ _))⟩ (fun hHeld => ?_)
            rw [hwd] at hHeld ⊢
            refine with_tabW tb54_6.tab6 tb54_6.bits6 (fun HT_ HW_ => ?_)
            refine pw_ 0 37 (bA 13 1) HT_.out ?_
            refine pw_ 1 38 (bA 13 3) HT_.out ?_
            refine pw_ 2 39 (bA 13 7) HT_.out ?_
            refine pw_ 4 41 (bA 13 23) HT_.out ?_
            refine tw_ 3 40 (bA 13 31) HT_.out HW_.out hHeld (hv := by rintro w' ⟨s0, s1, s2⟩; go_simp; with_reducible rfl) (h := ?_)
            refine tw_ 5 42 (bA 13 63) HT_.out HW_.out hHeld (hv := by rintro w' ⟨s0, s1, s2⟩; go_simp; with_reducible rfl) (h := ?_)
            refine tw_ 6 43 (bA 13 127) HT_.out HW_.out hHeld (hv := by rintro w' ⟨s0, s1, s2⟩; go_simp; with_reducible rfl) (h := ?_)
            refine pw_ 7 36 (bA 13 255) HT_.out ?_
            refine pw_ 8 44 (bA 13 511) HT_.out ?_
            refine pw_ 9 45 (bA 13 1023) HT_.out ?_
            refine one_ (i := 10) (N := some 7) (bA 13 2047) rfl rfl (one_of HT_.out (by kernel_rfl)) (by decide) (fun K hK => ?_)
            refine value_ (w1 := ?_) (v := ?_) (by rfl) rfl ?_ ?_
            rotate_left 2
            · go_simp
              constructor
              · rfl
              · rfl
            refine hK.out _ _ ⟨(HT.out.hat.al.cell 2 rfl), (HX.out.al.cell 0 rfl), (HLK.out _ ((Below.refl _ _).alloc (Nat.le_refl _) _))⟩ (fun hHeld => ?_)
            clear hK K
            refine norm_ (a' := ?_) ?_ ?_
            rotate_left
            · show Act.put _ (some 7) _ = _
              simp only [Act.put, pA, pB, pC, pD, pE]; rfl
            refine last_ (i := 11) (N := none) (bA 13 4095) rfl rfl (one_of HT_.out (by kernel_rfl)) (by decide) (fun K hK => ?_)
            refine skip_ (w1 := ?_) (by rfl) rfl ?_ ?_
            rotate_left; · go_simp; rfl
            refine hK.out _ _ ?_; clear hK K
            refine pw_ 12 8 (bA 13 8191) HT_.out ?_
            refine done_ (done_of HT_.out (by kernel_rfl)) ?_
            clear hHeld HT_ HW_
            refine gen_then (fun W => Kpt (fun k => k = me) w W) (HT.out.k.alloc _) ?_
            clear HT HX hwd HLK
            intro wy hk
            have HK := Lib.hid hk
            clear hk
            go_wp2
            go_ret
            exact ⟨rfl, HK.out, fun h => by cases h⟩
        · obtain rfl : j = m := by omega
          have jn : ¬ ((j : Int) < (j : Int)) := by omega
          have HZ := Lib.hid hT
          clear hT hjk hjm hj
          go_wp2_with fail
          go_meet
          exact HZ.out
    case rest =>
      rename World => w4
      have HT4 := Lib.hid hcut
      have HND := Lib.hid (show (es.map (·.1)).Nodup from by have := hcut.u; rwa [List.take_of_length_le (by have := HL.out.2.2.2.2.2.1; omega)] at this)
      clear hcut HT3
      go_upto_block 2 with (fail)
      go_cut [10] from 57 to 64 (fun s10 wx => Below w4.heap.size w4 wx ∧ Hid (∀ p ∈ es, 1 ≤ p.1))
      case first =>
        go_wp2_with fail
        go_loopg [57] (m + 1) (fun kq v57 w' => ∃ j : Nat, v57 = .int .i64 (j : Int) ∧ Hid (j + kq = m + 1 ∧ j ≤ m ∧ Below w4.heap.size w4 w' ∧ ∀ p ∈ es.take j, 1 ≤ p.1))
        case atStart => exact ⟨0, rfl, Lib.hid ⟨by omega, by omega, Below.refl _ _, fun p hp => by simp at hp⟩⟩
        case round =>
          obtain ⟨j, rfl, hI⟩ := hrel
          obtain ⟨hjk, hjm, hb, hgood⟩ := hI.out
          clear hI
          by_cases hj : j < m
          · obtain ⟨k1, rfl⟩ : ∃ k1, gk = k1 + 1 := ⟨gk - 1, by omega⟩
            obtain ⟨⟨e, u, v, b⟩, hx⟩ : ∃ x, es[j]? = some x := ⟨_, List.getElem?_eq_getElem (by have := HL.out.2.2.2.2.2.1; omega)⟩
            obtain ⟨ge, rfl, x0, x1, x2, x3⟩ := (HT4.out.below hb).he j e u v b hx
            have j0 : (0 : Int) ≤ (j : Int) := by omega
            have j1 : (j : Int) < (m : Int) := by omega
            have HB := Lib.hid (show Below wr.heap.size wr (wr.alloc (.cells #[.int .i64 e, .int .i64 u, .int .i64 v, .int .u32 (b : Int)] 74)) from (Below.refl _ _).alloc (Nat.le_refl _) _)
            have HI := Lib.hid (And.intro hjk (And.intro hx (And.intro hb hgood)))
            have hxm := List.mem_of_getElem? hx
            clear hjk hjm hb hgood hj
            by_cases h1 : e < 1
            · have hcd : code = 1 := HL.out.2.2.1.symm.trans (tcode_1 HN.out HND.out ⟨_, hxm, h1⟩)
              subst hcd
              have HK := Lib.hid (HT4.out.k.below (HI.out.2.2.1.trans (HB.out.mono HI.out.2.2.1.size)))
              clear HI HB hx hxm
              go_wp2
              go_ret
              first | exact ⟨rfl, HK.out, fun h => by cases h⟩ | exact ⟨rfl, HK.out⟩
            · have HG := Lib.hid (show 1 ≤ e by omega)
              have HX := Lib.hid (show j + 1 + k1 = m + 1 ∧ j + 1 ≤ m ∧ Below w4.heap.size w4 (wr.alloc (.cells #[.int .i64 e, .int .i64 u, .int .i64 v, .int .u32 (b : Int)] 74)) ∧ ∀ p ∈ es.take (j + 1), 1 ≤ p.1 from ⟨by have := HI.out.1; omega, by omega, HI.out.2.2.1.trans (HB.out.mono HI.out.2.2.1.size), fun p hp => by
                rw [List.take_add_one, HI.out.2.1] at hp
                rcases List.mem_append.1 hp with hp | hp
                · exact HI.out.2.2.2 p hp
                · have hp : p = (e, u, v, b) := by simpa using hp
                  subst hp
                  exact HG.out⟩)
              clear HI HB HG hx hxm
              go_wp2
              go_roundg k1
              case measure => omega
              case rel => exact ⟨j + 1, by go_num, HX⟩
          · obtain rfl : j = m := by omega
            have jn : ¬ ((j : Int) < (j : Int)) := by omega
            rw [List.take_of_length_le (by have := HL.out.2.2.2.2.2.1; omega)] at hgood
            have HZ := Lib.hid (And.intro hb (Lib.hid hgood))
            clear hb hgood hjk hjm hj
            go_wp2_with fail
            go_meet
            exact HZ.out
      case rest =>
        obtain ⟨hb, HG2⟩ := hcut
        rename World => w5
        have HBw5 := Lib.hid hb
        clear hb
        go_upto_block 4 with (fail)
        go_cut [12] from 67 to 83 (fun s12 wx => Below w5.heap.size w5 wx ∧ Hid (∀ p ∈ es, p.2.1 ∈ sv ∧ p.2.2.1 ∈ sv))
        case first =>
          go_wp2_with fail
          go_loopg [67] (m + 1) (fun kq v67 w' => ∃ j : Nat, v67 = .int .i64 (j : Int) ∧ Hid (j + kq = m + 1 ∧ j ≤ m ∧ Below w5.heap.size w5 w' ∧ ∀ p ∈ es.take j, p.2.1 ∈ sv ∧ p.2.2.1 ∈ sv))
          case atStart => exact ⟨0, rfl, Lib.hid ⟨by omega, by omega, Below.refl _ _, fun p hp => by simp at hp⟩⟩
          case round =>
            obtain ⟨j, rfl, hI⟩ := hrel
            obtain ⟨hjk, hjm, hb, hgood⟩ := hI.out
            clear hI
            by_cases hj : j < m
            · obtain ⟨k1, rfl⟩ : ∃ k1, gk = k1 + 1 := ⟨gk - 1, by omega⟩
              obtain ⟨⟨e, u, v, b⟩, hx⟩ : ∃ x, es[j]? = some x := ⟨_, List.getElem?_eq_getElem (by have := HL.out.2.2.2.2.2.1; omega)⟩
              obtain ⟨ge, rfl, x0, x1, x2, x3⟩ := (HT4.out.below (HBw5.out.trans (hb.mono HBw5.out.size))).he j e u v b hx
              have j0 : (0 : Int) ≤ (j : Int) := by omega
              have j1 : (j : Int) < (m : Int) := by omega
              have HB := Lib.hid (show Below wr.heap.size wr (wr.alloc (.cells #[.int .i64 e, .int .i64 u, .int .i64 v, .int .u32 (b : Int)] 74)) from (Below.refl _ _).alloc (Nat.le_refl _) _)
              have HI := Lib.hid (And.intro hjk (And.intro hx (And.intro hb hgood)))
              have hxm := List.mem_of_getElem? hx
              clear hjk hjm hb hgood hj
              have HW := Lib.hid (HBw5.out.trans (HI.out.2.2.1.mono HBw5.out.size))
              have hT5 := (HT4.out.below HW.out).below HB.out
              have HIS := Lib.hid (is_calls _ gt cl cv A sv .nilFunc _ _ s hT5.hat hT5.hv HL.out.2.2.2.1 HL.out.2.2.2.2.1 HL.out.1 u)
              clear hT5
              cases hu : sv.contains u with
              | false =>
                have hcd : code = 5 := HL.out.2.2.1.symm.trans ((tcode_b HN.out HND.out HG2.out).trans (if_pos ⟨_, hxm, fun h => by rw [List.contains_iff_mem.2 h.1] at hu; cases hu⟩))
                subst hcd
                rw [hu] at HIS
                clear hu hx hxm
                go_wp2_with fail
                refine HIS.out.mono ?_
                clear HIS
                rintro e1 w6 ⟨rfl, b6⟩
                have HK := Lib.hid (HT4.out.k.below ((HW.out.trans (HB.out.mono HW.out.size)).trans (b6.mono (Nat.le_trans HW.out.size HB.out.size))))
                clear HW b6 HB HI
                go_wp2
                go_ret
                first | exact ⟨rfl, HK.out, fun h => by cases h⟩ | exact ⟨rfl, HK.out⟩
              | true =>
                rw [hu] at HIS
                go_upto_region 20 with (fail)
                obtain ⟨gx, hgx⟩ : ∃ g, wr.heap.size = g := ⟨_, rfl⟩
                have hX : At (wr.alloc (.cells #[.int .i64 e, .int .i64 u, .int .i64 v, .int .u32 (b : Int)] 74)) gx [.int .i64 e, .int .i64 u, .int .i64 v, .int .u32 (b : Int)] 74 := At.made hgx rfl
                rw [hgx]
                have HX := Lib.hid hX
                have HU := Lib.hid (List.contains_iff_mem.1 hu)
                have x1 := hX.cell 1 rfl
                clear hX hgx hu x0 x2 x3
                go_wp2_with fail
                refine HIS.out.mono ?_
                clear HIS x1
                rintro e1 w6 ⟨rfl, b6⟩
                have HB6 := Lib.hid (HB.out.trans (b6.mono HB.out.size))
                have hT5 := (HT4.out.below HW.out).below HB6.out
                have HIS := Lib.hid (is_calls _ gt cl cv A sv .nilFunc _ _ s hT5.hat hT5.hv HL.out.2.2.2.1 HL.out.2.2.2.2.1 HL.out.1 v)
                have x2 := (HX.out.below b6 HX.out.lt).cell 2 rfl
                clear hT5 b6 HB HX
                cases hv : sv.contains v with
                | false =>
                  have hcd : code = 5 := HL.out.2.2.1.symm.trans ((tcode_b HN.out HND.out HG2.out).trans (if_pos ⟨_, hxm, fun h => by rw [List.contains_iff_mem.2 h.2] at hv; cases hv⟩))
                  subst hcd
                  rw [hv] at HIS
                  clear hv hx hxm
                  go_wp2_with fail
                  refine HIS.out.mono ?_
                  clear HIS x2
                  rintro e1 w7 ⟨rfl, b7⟩
                  have HK := Lib.hid (HT4.out.k.below ((HW.out.trans (HB6.out.mono HW.out.size)).trans (b7.mono (Nat.le_trans HW.out.size HB6.out.size))))
                  clear HW b7 HB6 HI
                  go_wp2
                  go_ret
                  first | exact ⟨rfl, HK.out, fun h => by cases h⟩ | exact ⟨rfl, HK.out⟩
                | true =>
                  rw [hv] at HIS
                  have HG := Lib.hid (And.intro HU.out (List.contains_iff_mem.1 hv))
                  clear hv
                  go_wp2_with fail
                  refine HIS.out.mono ?_
                  clear HIS x2
                  rintro e1 w7 ⟨rfl, b7⟩
                  have HB := Lib.hid (HB6.out.trans (b7.mono HB6.out.size))
                  clear b7 HB6 HW HU
                  have HX := Lib.hid (show j + 1 + k1 = m + 1 ∧ j + 1 ≤ m ∧ Below w5.heap.size w5 w7 ∧ ∀ p ∈ es.take (j + 1), p.2.1 ∈ sv ∧ p.2.2.1 ∈ sv from ⟨by have := HI.out.1; omega, by omega, HI.out.2.2.1.trans (HB.out.mono HI.out.2.2.1.size), fun p hp => by
                    rw [List.take_add_one, HI.out.2.1] at hp
                    rcases List.mem_append.1 hp with hp | hp
                    · exact HI.out.2.2.2 p hp
                    · have hp : p = (e, u, v, b) := by simpa using hp
                      subst hp
                      exact HG.out⟩)
                  clear HI HB HG hx hxm
                  go_wp2
                  go_roundg k1
                  case measure => omega
                  case rel => exact ⟨j + 1, by go_num, HX⟩
            · obtain rfl : j = m := by omega
              have jn : ¬ ((j : Int) < (j : Int)) := by omega
              rw [List.take_of_length_le (by have := HL.out.2.2.2.2.2.1; omega)] at hgood
              have HZ := Lib.hid (And.intro hb (Lib.hid hgood))
              clear hb hgood hjk hjm hj
              go_wp2_with fail
              go_meet
              exact HZ.out
        case rest =>
          obtain ⟨hb, HG4⟩ := hcut
          rename World => w6
          have HBw6 := Lib.hid hb
          clear hb
          have HW := Lib.hid (HBw5.out.trans (HBw6.out.mono HBw5.out.size))
          have hT6 := HT4.out.below HW.out
          have HIS := Lib.hid (is_calls _ gt cl cv A sv .nilFunc _ _ s hT6.hat hT6.hv HL.out.2.2.2.1 HL.out.2.2.2.2.1 HL.out.1 s)
          have q0 := hT6.hat.cell 0 rfl
          clear hT6 HBw5 HBw6
          cases hsv : sv.contains s with
          | false =>
            have hcd : code = 5 := HL.out.2.2.1.symm.trans ((tcode_c HN.out HND.out HG2.out HG4.out).trans (if_pos fun h => by rw [List.contains_iff_mem.2 h] at hsv; cases hsv))
            subst hcd
            rw [hsv] at HIS
            clear hsv
            go_wp2_with fail
            refine HIS.out.mono ?_
            clear HIS q0
            rintro e1 w7 ⟨rfl, b7⟩
            have HK := Lib.hid (HT4.out.k.below (HW.out.trans (b7.mono HW.out.size)))
            clear b7
            go_wp2
            go_ret
            first | exact ⟨rfl, HK.out, fun h => by cases h⟩ | exact ⟨rfl, HK.out⟩
          | true =>
            rw [hsv] at HIS
            have HSS := Lib.hid (List.contains_iff_mem.1 hsv)
            clear hsv
            go_wp2_with fail
            refine HIS.out.mono ?_
            clear HIS q0
            rintro e1 w8 ⟨rfl, b7⟩
            have HW2 := Lib.hid (HW.out.trans (b7.mono HW.out.size))
            clear b7 HW
            have HW := Lib.hid HW2.out
            clear HW2
            go_upto_block 6 with (fail)
            go_cut [14, 15, 16] from 93 to 106 (fun s14 s15 s16 wx => Below w8.heap.size w8 wx ∧ Hid (∀ p ∈ es, admOk p.2.2.2 = true))
            case first =>
              go_wp2_with fail
              go_loopg [93] (m + 1) (fun kq v93 w' => ∃ j : Nat, v93 = .int .i64 (j : Int) ∧ Hid (j + kq = m + 1 ∧ j ≤ m ∧ Below w8.heap.size w8 w' ∧ ∀ p ∈ es.take j, admOk p.2.2.2 = true))
              case atStart => exact ⟨0, rfl, Lib.hid ⟨by omega, by omega, Below.refl _ _, fun p hp => by simp at hp⟩⟩
              case round =>
                obtain ⟨j, rfl, hI⟩ := hrel
                obtain ⟨hjk, hjm, hb, hgood⟩ := hI.out
                clear hI
                by_cases hj : j < m
                · obtain ⟨k1, rfl⟩ : ∃ k1, gk = k1 + 1 := ⟨gk - 1, by omega⟩
                  obtain ⟨⟨e, u, v, b⟩, hx⟩ : ∃ x, es[j]? = some x := ⟨_, List.getElem?_eq_getElem (by have := HL.out.2.2.2.2.2.1; omega)⟩
                  obtain ⟨ge, rfl, x0, x1, x2, x3⟩ := (HT4.out.below (HW.out.trans (hb.mono HW.out.size))).he j e u v b hx
                  have j0 : (0 : Int) ≤ (j : Int) := by omega
                  have j1 : (j : Int) < (m : Int) := by omega
                  have HB := Lib.hid (show Below wr.heap.size wr (wr.alloc (.cells #[.int .i64 e, .int .i64 u, .int .i64 v, .int .u32 (b : Int)] 74)) from (Below.refl _ _).alloc (Nat.le_refl _) _)
                  have HI := Lib.hid (And.intro hjk (And.intro hx (And.intro hb hgood)))
                  have hxm := List.mem_of_getElem? hx
                  clear hjk hjm hb hgood hj
                  have HAd := Lib.hid (admit_calls b (wr.alloc (.cells #[.int .i64 e, .int .i64 u, .int .i64 v, .int .u32 (b : Int)] 74)) (HL.out.2.2.2.2.2.2.2 _ hxm))
                  cases hu : admOk b with
                  | false =>
                    have hcd : code = 7 := HL.out.2.2.1.symm.trans ((tcode_d HN.out HND.out HG2.out HG4.out HSS.out).trans (if_pos ⟨_, hxm, hu⟩))
                    subst hcd
                    rw [hu] at HAd
                    have HK := Lib.hid (HT4.out.k.below ((HW.out.trans (HI.out.2.2.1.mono HW.out.size)).trans (HB.out.mono (Nat.le_trans HW.out.size HI.out.2.2.1.size))))
                    clear hu hx hxm HI HB
                    go_wp2_with fail
                    refine HAd.out.mono ?_
                    clear HAd
                    rintro e1 w6 ⟨rfl, rfl⟩
                    go_wp2
                    go_ret
                    first | exact ⟨rfl, HK.out, fun h => by cases h⟩ | exact ⟨rfl, HK.out⟩
                  | true =>
                    have HG := Lib.hid hu
                    rw [hu] at HAd
                    clear hu
                    go_wp2_with fail
                    refine HAd.out.mono ?_
                    clear HAd
                    rintro e1 w6 ⟨rfl, rfl⟩
                    have HX := Lib.hid (show j + 1 + k1 = m + 1 ∧ j + 1 ≤ m ∧ Below w8.heap.size w8 (wr.alloc (.cells #[.int .i64 e, .int .i64 u, .int .i64 v, .int .u32 (b : Int)] 74)) ∧ ∀ p ∈ es.take (j + 1), admOk p.2.2.2 = true from ⟨by have := HI.out.1; omega, by omega, HI.out.2.2.1.trans (HB.out.mono HI.out.2.2.1.size), fun p hp => by
                      rw [List.take_add_one, HI.out.2.1] at hp
                      rcases List.mem_append.1 hp with hp | hp
                      · exact HI.out.2.2.2 p hp
                      · have hp : p = (e, u, v, b) := by simpa using hp
                        subst hp
                        exact HG.out⟩)
                    clear HI HB HG hx hxm
                    go_wp2
                    go_roundg k1
                    case measure => omega
                    case rel => exact ⟨j + 1, by go_num, HX⟩
                · obtain rfl : j = m := by omega
                  have jn : ¬ ((j : Int) < (j : Int)) := by omega
                  rw [List.take_of_length_le (by have := HL.out.2.2.2.2.2.1; omega)] at hgood
                  have HZ := Lib.hid (And.intro hb (Lib.hid hgood))
                  clear hb hgood hjk hjm hj
                  go_wp2_with fail
                  go_meet
                  exact HZ.out
            case rest =>
              obtain ⟨hb, HG6⟩ := hcut
              rename World => w9
              have HBw9 := Lib.hid hb
              clear hb
              have hcd : code = 0 := HL.out.2.2.1.symm.trans ((tcode_d HN.out HND.out HG2.out HG4.out HSS.out).trans (if_neg fun ⟨p, hp, hl⟩ => by rw [HG6.out p hp] at hl; cases hl))
              subst hcd
              have HZ := Lib.hid (HT4.out.below (HW.out.trans (HBw9.out.mono HW.out.size)))
              have HME := Lib.hid HL.out.2.2.2.2.2.1
              clear HBw9 HW
              go_wp2
              go_ret
              have hm := HZ.out.hm
              rw [List.take_of_length_le (by have := HME.out; omega)] at hm
              first | exact ⟨rfl, HZ.out.k, fun _ => hm⟩ | exact ⟨rfl, HZ.out.k, hm⟩
  · have hcd : code = 2 := HL.out.2.2.1.symm.trans (tcode_dup fun h => hd (HL.out.2.1.2 h))
    subst hcd
    have hd2 : ¬ ((cl : Int) = (n : Int)) := by omega
    have hd3 : ((cl : Int) == (n : Int)) = false := by simpa using hd2
    clear hd
    go_wp2
    go_ret
    exact ⟨rfl, HT3.out.k, fun h => by cases h⟩
end Go.Proofs.YtgihncjllelonaaGreat.Tb
